/- Several texts of one claim, one behind the other. -/
import Derived.Test.YtocaabnbmcpjmaaGreatB22
import Derived.Test.YtocaabnbmcpjmaaGreatB06
import Derived.ArgAppend
import Derived.Test.YtocaabnbmcpjmaaGreatB23
import Derived.Test.YtocaabnbmcpjmaaGreatB10
import Derived.Test.YtocaabnbmcpjmaaGreatB09
import Derived.Test.YtocaabnbmcpjmaaGreatB15
import Derived.Test.YtocaabnbmcpjmaaGreatB05
import Derived.Test.YtocaabnbmcpjmaaGreatB01
set_option linter.unusedVariables false
set_option linter.unusedSimpArgs false
set_option maxRecDepth 100000
set_option maxHeartbeats 16000000
namespace Go.Proofs.YtocaabnbmcpjmaaGreat
variable {φ ψ : Prop}
section
open Go.RowKit Go.MapKept
attribute [local irreducible] Go.Calls Go.Exit.then Go.Exit.inBlock Go.bodyPost Go.Code.wp Go.wpList takeL recordL hashL recL allL decR ofId
section
def ItrN (r : Nat) (w : World) : Prop := w.heap[r]? = some (.mapIter none 0 #[] 0)
def itrN (r : Nat) : Fa := ⟨ItrN r, fun k => k = r, fun h e => by rw [e]; exact heap_lt h, fun h hF hn => (hF.block r (heap_lt h) (hn r rfl)).trans h⟩
section
variable {P : Program} {ops : Array Oper} {Q : Exit → Act → World → Prop} {n : Nat} {l : Env} {L : List Fa} {rest : List Oper} {ty t kt e : TypeId} {pos : String} {after : Array Edge} {x : Operand} {d' : Tmp} {r : Nat}
theorem sl_range_nil (hx : ev l x = some (.map none)) (ht : P.underlying t = some (.map kt e)) (hd : Nat.blt d' n = true)
  (h : ∀ r, SL P ops Q rest n ((d', .pointer (some ⟨r, 0, none⟩)) :: l) (itrN r :: L)) : SL P ops Q (⟨some d', .range t x, ty, pos, after, none⟩ :: rest) n l L := sl_of fun w hw => by
 refine wl_run (v := .pointer (some ⟨w.heap.size, 0, none⟩)) (w' := w.alloc (.mapIter none 0 #[] 0)) ?_ hd ((h w.heap.size).to ?_)
 ·unfold Ru
  intro a _ _ _ _ hs
  simp only [execOp, hs.ev hx]
  rw [Sem.run_bind, run_range_nilMap w t kt e ht]
  rfl
 ·refine hw.new ((Fr.refl Nil w).alloc _) ?_ (fun j hj => by have : j = w.heap.size := hj; omega)
  exact heap_alloc_new w _
theorem sl_next_nil (hx : ev l x = some (.pointer (some ⟨r, 0, none⟩))) (hp : At (itrN r) L) (hd : Nat.blt d' n = true)
  (h : SL P ops Q rest n ((d', .tuple #[.bool false]) :: l) L) : SL P ops Q (⟨some d', .next x false, ty, pos, after, none⟩ :: rest) n l L := sl_of fun w hw => by
 have hI : w.heap[r]? = some (.mapIter none 0 #[] 0) := hw.at hp
 refine wl_run (v := .tuple #[.bool false]) (w' := w) ?_ hd (h.to hw)
 unfold Ru
 intro a _ _ _ _ hs
 simp only [execOp, hs.ev hx]
 have hr : (Instr.next (.pointer (some ⟨r, 0, none⟩)) false ty).run P w = .ok (.tuple #[.bool false]) w := by
  simp only [Instr.next, getObj, Sem.run_bind, Sem.run, hI, Result.andThen]
  rfl
 rw [Sem.run_bind, hr]
 rfl
end
attribute [irreducible] itrN
open pVm0
theorem e1_Vm5 (h : φ := by (rintro _ -; refine sc_seq ?_; refine sc_region ?_; refine sl_next_nil rfl at_ rfl ?_; refine go_ ?_; exact se_mid () has_ sub_ trivial)) : φ := h
theorem mcopied_new {K : List Fa} {g : Nat} {t : Ta} {r : Rl} {lim : Int} :
  Fn Tryz.prog 29 #[.pointer (some ⟨g, 0, none⟩)] (blk g 94 (mdC t r lim (.slice none 0 0) none none none) :: K) (Ret (fun M : Md => M.ss = [] ∧ M.ws = [] ∧ M.sd = [] ∧ M.fs = []) (fun M => .pointer (some ⟨M.g, 0, none⟩)) (fun M => mdF t r lim M K)) := by
 refine fe_ Tryz.func29 Tryz.ntmps29 [(0, .pointer (some ⟨g, 0, none⟩))] ?_; refine sc_seq ?_; refine sc_region ?_
 repeat refine su_ ?_
 refine sl_nil ?_; refine se_seq ?_; refine sc_env [(0, .pointer (some ⟨g, 0, none⟩))] has_ ?_
 refine copyA0 (ss := []) (by decide) (fun w hw => ⟨rfl, fun h => absurd h (by decide)⟩) (by first | exact nop_) (fun g3 A2 c2 mw2 md2 mf2 => ?_)
 refine sc_sub (L' := blk g3 94 (mdC t r lim (.slice A2 0 c2) (some mw2) (some md2) (some mf2)) :: ixo A2 c2 [] :: wM mw2 [] 0 :: sxM md2 [] 0 :: bM mf2 [] 0 :: blk g 94 (mdC t r lim (.slice none 0 0) none none none) :: K) Sub.refl ?_; refine go_ ?_; refine sl_range_nil rfl rfl rfl ?_; intro r1; refine go_ ?_; refine sc_bjoin (α := Unit) (fun _ => [(0, .pointer (some ⟨g, 0, none⟩)), (3, .pointer (some ⟨g3, 0, none⟩))]) (fun z => blk g3 94 (mdC t r lim (.slice A2 0 c2) (some mw2) (some md2) (some mf2)) :: ixo A2 c2 [] :: wM mw2 [] 0 :: sxM md2 [] 0 :: bM mf2 [] 0 :: blk g 94 (mdC t r lim (.slice none 0 0) none none none) :: K) (fun _ => True) ?_ ?_
 ·refine sc_for (α := Unit) (fun _ => [(0, .pointer (some ⟨g, 0, none⟩)), (3, .pointer (some ⟨g3, 0, none⟩)), (37, .pointer (some ⟨r1, 0, none⟩))]) (fun z => itrN r1 :: blk g3 94 (mdC t r lim (.slice A2 0 c2) (some mw2) (some md2) (some mf2)) :: ixo A2 c2 [] :: wM mw2 [] 0 :: sxM md2 [] 0 :: bM mf2 [] 0 :: blk g 94 (mdC t r lim (.slice none 0 0) none none none) :: K) (fun _ => True) (fun _ => 0) () has_ sub_ trivial ?_; exact e1_Vm5
 rintro _ -; refine go_ ?_; refine sl_range_nil rfl rfl rfl ?_; intro r2; refine go_ ?_; refine sc_bjoin (α := Unit) (fun _ => [(0, .pointer (some ⟨g, 0, none⟩)), (3, .pointer (some ⟨g3, 0, none⟩))]) (fun z => blk g3 94 (mdC t r lim (.slice A2 0 c2) (some mw2) (some md2) (some mf2)) :: ixo A2 c2 [] :: wM mw2 [] 0 :: sxM md2 [] 0 :: bM mf2 [] 0 :: blk g 94 (mdC t r lim (.slice none 0 0) none none none) :: K) (fun _ => True) ?_ ?_
 ·refine sc_for (α := Unit) (fun _ => [(0, .pointer (some ⟨g, 0, none⟩)), (3, .pointer (some ⟨g3, 0, none⟩)), (53, .pointer (some ⟨r2, 0, none⟩))]) (fun z => itrN r2 :: blk g3 94 (mdC t r lim (.slice A2 0 c2) (some mw2) (some md2) (some mf2)) :: ixo A2 c2 [] :: wM mw2 [] 0 :: sxM md2 [] 0 :: bM mf2 [] 0 :: blk g 94 (mdC t r lim (.slice none 0 0) none none none) :: K) (fun _ => True) (fun _ => 0) () has_ sub_ trivial ?_; exact e1_Vm5
 rintro _ -; refine go_ ?_; refine sl_range_nil rfl rfl rfl ?_; intro r3; refine go_ ?_; refine sc_bjoin (α := Unit) (fun _ => [(3, .pointer (some ⟨g3, 0, none⟩))]) (fun z => blk g3 94 (mdC t r lim (.slice A2 0 c2) (some mw2) (some md2) (some mf2)) :: ixo A2 c2 [] :: wM mw2 [] 0 :: sxM md2 [] 0 :: bM mf2 [] 0 :: blk g 94 (mdC t r lim (.slice none 0 0) none none none) :: K) (fun _ => True) ?_ ?_
 ·refine sc_for (α := Unit) (fun _ => [(3, .pointer (some ⟨g3, 0, none⟩)), (69, .pointer (some ⟨r3, 0, none⟩))]) (fun z => itrN r3 :: blk g3 94 (mdC t r lim (.slice A2 0 c2) (some mw2) (some md2) (some mf2)) :: ixo A2 c2 [] :: wM mw2 [] 0 :: sxM md2 [] 0 :: bM mf2 [] 0 :: blk g 94 (mdC t r lim (.slice none 0 0) none none none) :: K) (fun _ => True) (fun _ => 0) () has_ sub_ trivial ?_; exact e1_Vm5
 rintro _ -; refine go_ ?_; exact se_ret1 (⟨g3, A2, c2, [], mw2, 0, [], md2, 0, [], mf2, 0, []⟩ : Md) ⟨rfl, rfl, rfl, rfl⟩ rfl rfl sub_
end
end
section
open Go.RowKit
theorem info_parts' {P : Program} {e : TypeId} {z : Value} {size bytes : Nat} (hi : (P.info? e).map (fun i => (i.zero, i.size, i.bytes)) = some (some z, size, bytes)) : ∃ i, P.info? e = some i ∧ i.zero = some z ∧ i.size = size ∧ i.bytes = bytes := by
 cases h : P.info? e with
 | none => rw [h] at hi; cases hi
 | some i =>
  rw [h] at hi
  simp only [Option.map_some, Option.some.injEq, Prod.mk.injEq] at hi
  exact ⟨i, rfl, hi.1, hi.2.1, hi.2.2⟩
structure RwT where
 g : Nat
 off : Nat
 c : Nat
 cur : List Value
def RwT.xs (r : RwT) (n : Nat) : List Value := (r.cur.drop r.off).take n
structure RwT.ok (r : RwT) (n : Nat) : Prop where
 le : n ≤ r.c
 mx : r.c ≤ maxLen
 sz : r.cur.length = r.off + r.c
abbrev RwT.v (r : RwT) (n : Nat) : Value := .slice (some ⟨r.g, r.off, none⟩) n r.c
def RwT.tl (r : RwT) (k : Nat) : RwT := ⟨r.g, r.off + k, r.c - k, r.cur⟩
theorem RwT.xs_len {r : RwT} {n : Nat} (h : r.ok n) : (r.xs n).length = n := by
 have h1 := h.le
 have h2 := h.sz
 simp [RwT.xs]
 omega
theorem RwT.tl_ok {r : RwT} {n k : Nat} (h : r.ok n) (hk : k ≤ n) : (r.tl k).ok (n - k) := by
 obtain ⟨h1, h2, h3⟩ := h
 exact ⟨by show n - k ≤ r.c - k; omega, by show r.c - k ≤ maxLen; omega, by show r.cur.length = r.off + k + (r.c - k); omega⟩
theorem RwT.tl_xs {r : RwT} {n k : Nat} (h : k ≤ n) : (r.tl k).xs (n - k) = (r.xs n).drop k := by
 show (r.cur.drop (r.off + k)).take (n - k) = ((r.cur.drop r.off).take n).drop k
 rw [List.drop_take, List.drop_drop]
section
variable {P : Program} {ops : Array Oper} {Q : Exit → Act → World → Prop} {n : Nat} {l : Env} {L L' : List Fa} {rest : List Oper} {d : Tmp} {ty t e : TypeId} {pos : String} {after : Array Edge} {x y : Operand} {z v : Value} {B : Option Addr} {k c i bytes : Nat} {xs : List Value} {r : RwT}
theorem rt_view (h : At (blk r.g e r.cur) L) (hk : r.ok k) : Vw L (fun w => Reads w 1 (some ⟨r.g, r.off, none⟩) k (r.xs k)) := fun w hw => by
 have h1 : Blk w r.g e r.cur.toArray := by
  have := hw.at h
  unfold blk at this
  exact this
 exact Reads.of_blk_mid h1 (by simp [RwT.xs]) (RwT.xs_len hk)
theorem sl_own_blk {g : Nat} (hp : Pick (own e 1 (some ⟨g, 0, none⟩) k c xs) L L') (h : ∀ r : RwT, r.g = g → r.off = 0 → r.c = c → r.ok k → r.xs k = xs → SL P ops Q rest n l (blk r.g e r.cur :: L')) : SL P ops Q rest n l L := sl_of fun w hw => by
 have h2 := hw.pick hp
 have hO : w.ownsRow 0 e 1 (.slice (some ⟨g, 0, none⟩) k c) k xs := by
  have := h2.hd
  unfold own at this
  exact this
 rcases hO.2 with ⟨h3, _⟩ | ⟨g', cap, cur, hv, _, hg, hkc, hcm, hcs, htk⟩
 ·cases h3
 ·injection hv with e1 e2 e3
  injection e1 with e1
  injection e1 with e1
  subst e1 e3
  have hok : (⟨g, 0, c, cur.toList⟩ : RwT).ok k := ⟨hkc, hcm, by simp [hcs]⟩
  have hx : (⟨g, 0, c, cur.toList⟩ : RwT).xs k = xs := by simpa [RwT.xs] using htk
  refine (h ⟨g, 0, c, cur.toList⟩ rfl rfl rfl hok hx).to ?_; refine Sep.step (S := Nil) h2 (Fr.refl _ _) (fun _ _ e => e.elim) (g := blk g e cur.toList) ?_ (fun k' hk' => .inl ?_)
  ·unfold blk
   show Blk w g e cur.toList.toArray
   rw [Array.toArray_toList]; exact hg
  ·unfold blk at hk'
   have hk2 : k' = g := hk'
   unfold own
   show some g = some k'
   rw [hk2]
theorem sl_appT (hx : ev l x = some (r.v k)) (hok : r.ok k) (hp : Pick (blk r.g e r.cur) L L') (hy : ev l y = some (.slice B 1 i)) (hr : Vw L (fun w => Reads w 1 B 1 [v])) (h1 : v.oneCell' = true) (ht : P.underlying t = some (.slice e)) (hi : (P.info? e).map (fun i => (i.zero, i.size, i.bytes)) = some (some z, 1, bytes)) (hzs : z.cells.size = 1)
  (hd : Nat.blt d n = true) (h63 : k + 1 ≤ maxLen) (hby : (k + 1) * bytes ≤ 140737488355328)
  (h : ∀ r' : RwT, r'.ok (k + 1) → r'.xs (k + 1) = r.xs k ++ [v] → SL P ops Q rest n ((d, r'.v (k + 1)) :: l) (blk r'.g e r'.cur :: L')) : SL P ops Q (⟨some d, .call { callee := .builtin .append, args := #[x, y], argTypes := #[t, t] }, ty, pos, after, none⟩ :: rest) n l L := sl_of fun w hw => by
 obtain ⟨ti, hi0, hz0, hz1, hz2⟩ := info_parts' hi
 have h2 := hw.pick hp
 have hB : Blk w r.g e r.cur.toArray := by
  have := h2.hd
  unfold blk at this
  exact this
 obtain ⟨hle, hmx, hsz⟩ := hok
 obtain ⟨hrl, hrc⟩ := hr w hw
 obtain ⟨ad, rfl, hcell⟩ := hrc (by decide)
 by_cases hroom : k + 1 ≤ r.c
 ·have hrun := run_append_room_cells (P := P) w t ty e ti ht hi0 r.g r.off k r.c ad 1 i [v] (by rw [hz1]; rfl) hcell (fun u hu => by rw [List.mem_singleton.1 hu]; exact h1) hroom
   (fun j hj => by
     have hj0 : j = 0 := by simp at hj; omega
     rw [hz1, hj0, Blk.cell hB]
     simp
     omega)
   (fun j hj => Blk.frozen hB _)
  rw [hz1] at hrun
  have hset : w.setCells r.g (r.off + k * 1) [v] = w.setCell ⟨r.g, r.off + k, none⟩ v := by
   rw [Nat.mul_one]
   rfl
  rw [hset] at hrun
  refine wl_run (v := .slice (some ⟨r.g, r.off, none⟩) (k + 1) r.c) (w' := w.setCell ⟨r.g, r.off + k, none⟩ v) ?_ hd ?_
  ·unfold Ru
   intro a _ _ _ _ hs
   simp only [execOp, resolve, List.map_toArray, List.map_cons, List.map_nil, hs.ev hx, hs.ev hy]
   simp only [invoke, builtin, Sem.run_bind, Sem.run_pure, Result.andThen_ok, RwT.v, hrun]
  ·have hok' : (⟨r.g, r.off, r.c, r.cur.set (r.off + k) v⟩ : RwT).ok (k + 1) := ⟨hroom, hmx, by simp [hsz]⟩
   have hxs : (⟨r.g, r.off, r.c, r.cur.set (r.off + k) v⟩ : RwT).xs (k + 1) = r.xs k ++ [v] := by
    show ((r.cur.set (r.off + k) v).drop r.off).take (k + 1) = (r.cur.drop r.off).take k ++ [v]
    have h5 : (r.cur.set (r.off + k) v).drop r.off = (r.cur.drop r.off).set k v := by
     rw [List.drop_set, if_neg (by omega), Nat.add_sub_cancel_left]
    rw [h5, List.take_succ_eq_append_getElem (by simp; omega), List.take_set_of_le (Nat.le_refl _)]
    simp
   refine (h ⟨r.g, r.off, r.c, r.cur.set (r.off + k) v⟩ hok' hxs).to ?_
   refine Sep.step (S := fun k' => k' = r.g) h2 (Fr.setCell (S := fun k' => k' = r.g) (Fr.refl _ w) (.inr rfl) v) (fun k' _ e => by unfold blk; exact e) (g := blk r.g e (r.cur.set (r.off + k) v)) ?_ (fun k' hk' => .inl (by unfold blk at hk' ⊢; exact hk'))
   have := hB.set_ (r.off + k) v
   unfold blk
   show Blk _ r.g e (r.cur.set (r.off + k) v).toArray
   simpa using this
 ·have hV := rt_view (L := L) (r := r) (e := e) (k := k) (At.of_mem ((hp.mem _).2 (.inl rfl))) ⟨hle, hmx, hsz⟩ w hw
  have hxl := RwT.xs_len (r := r) (n := k) ⟨hle, hmx, hsz⟩
  have hold : ∀ j u, (r.xs k)[j]? = some u → w.cell? ((⟨r.g, r.off, none⟩ : Addr).add j) = some u := fun j u hu => by
   have hk0 : 0 < k := by
    have := (List.getElem?_eq_some_iff.1 hu).1
    omega
   obtain ⟨a', ha, hc⟩ := hV.2 hk0
   injection ha with ha
   subst ha; exact hc j u hu
  obtain ⟨v', w', hrun, hown, hgr⟩ := run_append_arg_grows (P := P) w t ty e ti z 1 bytes ht hi0 hz0 hz1 hz2 hzs (by decide) ⟨r.g, r.off, none⟩ k r.c (r.xs k) (by rw [hxl, Nat.mul_one]) hold ad 1 i [v] rfl hcell (by omega) h63 hby
  rcases hown.2 with ⟨_, h3⟩ | ⟨g', cap, cur, rfl, hge, hg, hkc, hcm, hcs, htk⟩
  ·omega
  refine wl_run (v := .slice (some ⟨g', 0, none⟩) (k + 1) cap) (w' := w') ?_ hd ?_
  ·unfold Ru
   intro a _ _ _ _ hs
   simp only [execOp, resolve, List.map_toArray, List.map_cons, List.map_nil, hs.ev hx, hs.ev hy]
   simp only [invoke, builtin, Sem.run_bind, Sem.run_pure, Result.andThen_ok, RwT.v, hrun]
  ·have hok' : (⟨g', 0, cap, cur.toList⟩ : RwT).ok (k + 1) := ⟨hkc, hcm, by simp [hcs]⟩
   have hxs : (⟨g', 0, cap, cur.toList⟩ : RwT).xs (k + 1) = r.xs k ++ [v] := by simpa [RwT.xs] using htk
   refine (h ⟨g', 0, cap, cur.toList⟩ hok' hxs).to ?_; refine Sep.step (S := Nil) h2 ((Fr.refl _ _).grown hgr (fun k' hk' _ => by cases hk')) (fun _ _ e => e.elim) (g := blk g' e cur.toList) ?_ (fun k' hk' => .inr ?_)
   ·unfold blk
    show Blk w' g' e cur.toList.toArray
    rw [Array.toArray_toList]; exact hg
   ·unfold blk at hk'
    have : k' = g' := hk'
    omega
end
end
section
open Go.RowKit Go.MapKept
attribute [local irreducible] Go.Calls Go.Exit.then Go.Exit.inBlock Go.bodyPost Go.Code.wp Go.wpList takeL recordL hashL recL allL decR ofId addV xorI gotB gotF
theorem waitA_st0 (ws : List Wt) : waitA (ws.map Wt.st0) = waitA ws := funext fun i => by
 unfold waitA kf
 rw [List.find?_map]
 show Option.map _ (Option.map Wt.st0 (List.find? (fun a => decide (wk_ a = i.l)) ws)) = _
 rw [Option.map_map]
 rfl
theorem winA_st0 (fs : List BK) : winA (fs.map BK.st0) = winA fs := funext fun i => by
 unfold winA kf
 rw [List.find?_map]
 show Option.map _ (Option.map BK.st0 (List.find? (fun a => decide (a.st = i)) fs)) = _
 rw [Option.map_map]
 rfl
theorem kd_st0W {ws : List Wt} : Kd wk_ (ws.map Wt.st0) ↔ Kd wk_ ws := by unfold Kd; rw [List.pairwise_map]; exact Iff.rfl
theorem kd_st0B {fs : List BK} : Kd BK.st (fs.map BK.st0) ↔ Kd BK.st fs := by unfold Kd; rw [List.pairwise_map]; exact Iff.rfl
theorem pr_st0 (sd : List Stx) : (sd.map Stx.st0).map Stx.pr = sd.map Stx.pr := by rw [List.map_map]; rfl
theorem Hd.st0 {ss : List Seen} {ws : List Wt} {ds : List (Id × List Int)} {fs : List BK} {a : Ab} : Hd ss (ws.map Wt.st0) ds (fs.map BK.st0) a ↔ Hd ss ws ds fs a := by
 constructor
 ·rintro ⟨h1, h2, h3, h4, h5, h6, h7, h8, h9, h10, h11⟩
  rw [waitA_st0] at h2
  rw [winA_st0] at h4
  rw [List.length_map] at h6 h7
  exact ⟨h1, h2, h3, h4, h5, h6, h7, h8, kd_st0W.1 h9, h10, kd_st0B.1 h11⟩
 ·rintro ⟨h1, h2, h3, h4, h5, h6, h7, h8, h9, h10, h11⟩; exact ⟨h1, by rw [waitA_st0]; exact h2, h3, by rw [winA_st0]; exact h4, h5, by rw [List.length_map]; exact h6, by rw [List.length_map]; exact h7, h8, kd_st0W.2 h9, h10, kd_st0B.2 h11⟩
theorem CopyOf.hm {M M' : Md} {b : Ab} (h : CopyOf M M') (hm : Hm M b) : Hm M' b := by
 obtain ⟨h1, h2, h3, h4⟩ := h
 have h7 : (M.sd.map Stx.pr).Perm (M'.sd.map Stx.pr) := by
  have := h3.symm.map Stx.pr
  rw [pr_st0, pr_st0] at this
  exact this
 have h5 := (Hd.st0.2 hm).perm (List.Perm.refl _) h2.symm h7 h4.symm
 have h6 := Hd.st0.1 h5
 show Hd M'.ss M'.ws (M'.sd.map Stx.pr) M'.fs b
 rw [h1]; exact h6
theorem mem_perm0 {α : Type} {f : α → α} {us vs : List α} (h : (us.map f).Perm (vs.map f)) {x : α} (hx : x ∈ us) : ∃ y ∈ vs, f x = f y := by
 have := h.mem_iff.1 (List.mem_map_of_mem (f := f) hx)
 obtain ⟨y, h1, h2⟩ := List.mem_map.1 this
 exact ⟨y, h1, h2.symm⟩
theorem CopyOf.mv {K : List Fa} {M M' : Md} (h : CopyOf M M') (hv : MV K M) : MV K M' := by
 refine ⟨fun w hw => ?_, fun w hw => ?_, fun b hb => ?_⟩
 ·obtain ⟨y, hy, e⟩ := mem_perm0 h.ws hw
  have h1 : w.pA = y.pA := show w.st0.pA = y.st0.pA by rw [e]
  have h2 : w.p = y.p := show w.st0.p = y.st0.p by rw [e]
  rw [h1, h2]; exact hv.p y hy
 ·obtain ⟨y, hy, e⟩ := mem_perm0 h.ws hw
  have h1 : w.sA = y.sA := show w.st0.sA = y.st0.sA by rw [e]
  have h2 : w.s = y.s := show w.st0.s = y.st0.s by rw [e]
  rw [h1, h2]; exact hv.s y hy
 ·obtain ⟨y, hy, e⟩ := mem_perm0 h.fs hb
  have h1 : b.A = y.A := show b.st0.A = y.st0.A by rw [e]
  have h2 : b.l = y.l := show b.st0.l = y.st0.l by rw [e]
  rw [h1, h2]; exact hv.b y hy
theorem MV.mono {K K' : List Fa} {M : Md} (h : MV K M) (hs : ∀ φ : World → Prop, Vw K φ → Vw K' φ) : MV K' M := ⟨fun w hw => hs _ (h.p w hw), fun w hw => hs _ (h.s w hw), fun b hb => hs _ (h.b b hb)⟩
def mdFa (t : Ta) (r : Rl) (lim : Int) (M : Md) : Fa := star (mdF t r lim M [])
theorem md_out {t : Ta} {r : Rl} {lim : Int} {M : Md} {K : List Fa} : Ent_ (mdFa t r lim M :: K) (mdF t r lim M K) := fun w hw => by
 unfold mdFa at hw
 have := star_out w hw
 exact this
theorem md_in {t : Ta} {r : Rl} {lim : Int} {M : Md} {K : List Fa} : Ent_ (mdF t r lim M K) (mdFa t r lim M :: K) := fun w hw => by
 unfold mdFa
 exact star_in (G := mdF t r lim M []) w hw
abbrev mds (t : Ta) (r : Rl) (lim : Int) (Ms : List Md) : Fa := star (Ms.map (mdFa t r lim))
theorem mds_out {t : Ta} {r : Rl} {lim : Int} {X Y : List Md} {M : Md} {K : List Fa} : Ent_ (mds t r lim (X ++ M :: Y) :: K) (mdF t r lim M (mds t r lim (X ++ Y) :: K)) := fun w hw => by
 have e1 : mds t r lim (X ++ M :: Y) = star (X.map (mdFa t r lim) ++ mdFa t r lim M :: Y.map (mdFa t r lim)) := by
  show star _ = _
  rw [List.map_append, List.map_cons]
 have e2 : mds t r lim (X ++ Y) = star (X.map (mdFa t r lim) ++ Y.map (mdFa t r lim)) := by
  show star _ = _
  rw [List.map_append]
 rw [e1] at hw
 rw [e2]; exact md_out w (kstar_pull w hw)
theorem mds_in {t : Ta} {r : Rl} {lim : Int} {X Y : List Md} {M : Md} {K : List Fa} : Ent_ (mdF t r lim M (mds t r lim (X ++ Y) :: K)) (mds t r lim (X ++ M :: Y) :: K) := fun w hw => by
 have e1 : mds t r lim (X ++ M :: Y) = star (X.map (mdFa t r lim) ++ mdFa t r lim M :: Y.map (mdFa t r lim)) := by
  show star _ = _
  rw [List.map_append, List.map_cons]
 have e2 : mds t r lim (X ++ Y) = star (X.map (mdFa t r lim) ++ Y.map (mdFa t r lim)) := by
  show star _ = _
  rw [List.map_append]
 rw [e1]
 rw [e2] at hw
 exact kstar_push w (md_in w hw)
theorem mds_one {t : Ta} {r : Rl} {lim : Int} {M : Md} {K : List Fa} : Ent_ (mdF t r lim M K) (mds t r lim [M] :: K) := fun w hw => by
 have h1 : Sep w (mdF t r lim M (mds t r lim ([] ++ []) :: K)) := by
  refine hw.sub ?_; exact Sub.cons .here (Sub.cons .here (Sub.cons .here (Sub.cons .here (Sub.cons .here (sub_star0 Sub.refl)))))
 exact mds_in (X := []) (Y := []) w h1
section
variable {t : Ta} {r : Rl} {lim : Int} {K : List Fa} {X Y : List Md} {M : Md} {g : Nat} {q : StM} {a b : Ab}
theorem pcopied (hn : M.ss.length ≤ 1000) :
  Fn Tryz.prog 29 #[.pointer (some ⟨M.g, 0, none⟩)] (mds t r lim (X ++ M :: Y) :: K) (Ret (CopyOf M) (fun M' => .pointer (some ⟨M'.g, 0, none⟩)) (fun M' => mdF t r lim M' (mds t r lim (X ++ M :: Y) :: K))) :=
 fn_ent mds_out ((mcopied_ok (K := mds t r lim (X ++ Y) :: K) hn).retain fun M' _ w hw => by
   have h1 : Sep w (mdF t r lim M (mds t r lim (X ++ Y) :: mdF t r lim M' K)) := hw.sub (by
     exact Sub.cons (.there (.there (.there (.there (.there .here))))) (Sub.cons (.there (.there (.there (.there (.there .here))))) (Sub.cons (.there (.there (.there (.there (.there .here))))) (Sub.cons (.there (.there (.there (.there (.there .here))))) (Sub.cons (.there (.there (.there (.there (.there .here))))) (Sub.cons (.there (.there (.there (.there (.there .here))))) Sub.refl))))))
   have h2 := mds_in w h1
   exact h2.sub (by exact Sub.cons (.there .here) (Sub.cons (.there .here) (Sub.cons (.there .here) (Sub.cons (.there .here) (Sub.cons (.there .here) (Sub.cons .here Sub.refl)))))))
theorem psame (T : TR_ t r lim) (hq : Hq q a) (hm : Hm M b) (hg : GA t r lim a) (hg' : GA t r lim b) (hv : MV K M) :
  Fn Tryz.prog 39 #[.pointer (some ⟨g, 0, none⟩), .pointer (some ⟨M.g, 0, none⟩)] (mds t r lim (X ++ M :: Y) :: sF g t r lim q K) (Ret (fun v : Bool => (v = true ↔ a = b)) (fun v => .bool v) (fun _ => mds t r lim (X ++ M :: Y) :: sF g t r lim q K)) := by
 have hS : ∀ K', Sub (mdF t r lim M (mds t r lim (X ++ Y) :: sF g t r lim q K')) (sF g t r lim q (mdF t r lim M (mds t r lim (X ++ Y) :: K'))) := fun K' => by
  refine Sub.cons (.there (.there (.there (.there (.there (.there .here)))))) ?_; refine Sub.cons (.there (.there (.there (.there (.there (.there .here)))))) ?_; refine Sub.cons (.there (.there (.there (.there (.there (.there .here)))))) ?_; refine Sub.cons (.there (.there (.there (.there (.there (.there .here)))))) ?_; refine Sub.cons (.there (.there (.there (.there (.there (.there .here)))))) ?_; refine Sub.cons (.there (.there (.there (.there (.there (.there .here)))))) ?_; refine Sub.cons (.there (.there (.there (.there (.there (.there .here)))))) ?_; refine Sub.cons (.there (.there (.there (.there (.there (.there .here)))))) ?_; refine Sub.cons (.there (.there (.there (.there (.there (.there .here)))))) ?_; refine Sub.cons (.there (.there (.there (.there (.there (.there .here)))))) ?_; exact Sub.refl
 have hS' : ∀ K', Sub (sF g t r lim q (mdF t r lim M (mds t r lim (X ++ Y) :: K'))) (mdF t r lim M (mds t r lim (X ++ Y) :: sF g t r lim q K')) := fun K' => by
  refine Sub.cons (.there (.there (.there (.there (.there (.there (.there (.there (.there (.there .here)))))))))) ?_; refine Sub.cons (.there (.there (.there (.there (.there (.there (.there (.there (.there (.there .here)))))))))) ?_; refine Sub.cons (.there (.there (.there (.there (.there (.there (.there (.there (.there (.there .here)))))))))) ?_; refine Sub.cons (.there (.there (.there (.there (.there (.there (.there (.there (.there (.there .here)))))))))) ?_; refine Sub.cons (.there (.there (.there (.there (.there (.there (.there (.there (.there (.there .here)))))))))) ?_; refine Sub.cons (.there (.there (.there (.there (.there (.there (.there (.there (.there (.there .here)))))))))) ?_; exact Sub.refl
 refine fn_ent mds_out ?_
 refine Fn.sub ((msame_ok (K := mds t r lim (X ++ Y) :: K) T hq hm hg hg' (hv.mono fun φ h => h.mono (Sub.skip Sub.refl))).retain fun v _ w hw => ?_) (hS K)
 exact mds_in w (hw.sub (hS' K))
theorem pcopied' {Ms : List Md} (hX : Ms = X ++ M :: Y) (hn : M.ss.length ≤ 1000) :
  Fn Tryz.prog 29 #[.pointer (some ⟨M.g, 0, none⟩)] (mds t r lim Ms :: K) (Ret (CopyOf M) (fun M' => .pointer (some ⟨M'.g, 0, none⟩)) (fun M' => mdF t r lim M' (mds t r lim Ms :: K))) := by
 subst hX; exact pcopied hn
theorem psame' {Ms : List Md} (hX : Ms = X ++ M :: Y) (T : TR_ t r lim) (hq : Hq q a) (hm : Hm M b) (hg : GA t r lim a) (hg' : GA t r lim b) (hv : MV K M) :
  Fn Tryz.prog 39 #[.pointer (some ⟨g, 0, none⟩), .pointer (some ⟨M.g, 0, none⟩)] (mds t r lim Ms :: sF g t r lim q K) (Ret (fun v : Bool => (v = true ↔ a = b)) (fun v => .bool v) (fun _ => mds t r lim Ms :: sF g t r lim q K)) := by
 subst hX; exact psame T hq hm hg hg' hv
end
end
section
open Go.RowKit
attribute [local irreducible] Go.Calls Go.Exit.then Go.Exit.inBlock Go.bodyPost Go.Code.wp Go.wpList
section
def sBt (kd b : Int) : Int := if kd = 2 ∨ kd = 3 then 1 + b % 4 else 0
def sLn (kd l : Int) : Int := if kd = 3 then 1 + (1 + l % 5) % 3 else if kd = 4 ∨ kd = 5 then 1 + l % 5 else 0
def sWt (kd l w : Int) : Int := if kd = 5 then 1 + w % (1 + l % 5) else 0
def sCh (kd c : Int) : Int := if kd = 3 ∨ kd = 4 ∨ kd = 5 then 1 + c % 4 else 0
def sCells (k f b l w c : Int) : List Value := [.int .u8 k, .int .u8 f, .int .u8 b, .int .u8 l, .int .u8 w, .int .u8 c]
def sC (k f b l w c : Int) : List Value := cCells (1 + k % 5) (1 + f % 2) (sBt (1 + k % 5) b) (sLn (1 + k % 5) l) (sWt (1 + k % 5) l w) (sCh (1 + k % 5) c)
theorem cc_one (a b c d e f : Int) : ∀ v ∈ [Value.int .u8 a, .int .u8 b, .int .i64 c, .int .i64 d, .int .i64 e, .int .i64 f], v.oneCell' = true := by
 intro v hv
 simp only [List.mem_cons, List.not_mem_nil, or_false] at hv
 rcases hv with rfl | rfl | rfl | rfl | rfl | rfl <;> rfl
namespace pCd
theorem onex_ (h : φ := by exact cc_one _ _ _ _ _ _) : φ := h
end pCd
open pCd
theorem o1_Cd (h : φ := by exact se_ret_c () trivial rfl rfl at_ rfl rfl rfl rfl sub_) : φ := h
theorem o2_Cd (k : ψ) (h : Hide ψ → φ := by (intro k; refine sl_store rfl pick_ rfl rfl (by kernel_rfl) set_ ?_; exact k.out)) : φ := h ⟨k⟩
theorem scirc_ok {K : List Fa} {k f b l w c : Int} (hk : 0 ≤ k ∧ k ≤ 255) (hf : 0 ≤ f ∧ f ≤ 255) (hb : 0 ≤ b ∧ b ≤ 255) (hl : 0 ≤ l ∧ l ≤ 255) (hw : 0 ≤ w ∧ w ≤ 255) (hc : 0 ≤ c ∧ c ≤ 255) :
  Fn Tryz.prog 40 #[.agg (sCells k f b l w c).toArray] K (Ret (fun _ : Unit => True) (fun _ => .agg (sC k f b l w c).toArray) (fun _ => K)) := by
 refine fe_ Tryz.func40 Tryz.ntmps40 [(0, .agg (sCells k f b l w c).toArray)] ?_; refine go_ ?_; refine bx_ ?_; intro g1; refine al_ ?_; intro g2; refine go_ ?_; refine sl_pu (pu_build (v := .agg (cCells (1 + k % 5) (1 + f % 2) 0 0 0 0).toArray) rfl (fun W => by kernel_rfl)) rfl ?_; refine al_ ?_; intro g3; refine go_ ?_
 ((refine sq_region (by kernel_rfl) (by kernel_rfl) ?_; (repeat refine rq_ ?_); refine sq_end ?_))
 refine go_ ?_
 have hkd : 1 ≤ 1 + k % 5 ∧ 1 + k % 5 ≤ 5 := by omega
 unfold sC
 generalize 1 + k % 5 = kd at hkd ⊢
 have hmw : 0 ≤ w % (1 + l % 5) ∧ w % (1 + l % 5) ≤ 4 := ⟨Int.emod_nonneg _ (by omega), by have := Int.emod_lt_of_pos w (show 0 < 1 + l % 5 by omega); omega⟩
 by_cases h2 : kd = 2
 ·subst h2; rw [show sBt 2 b = 1 + b % 4 by simp [sBt], show sLn 2 l = 0 by simp [sLn], show sWt 2 l w = 0 by simp [sWt], show sCh 2 c = 0 by simp [sCh]]; refine go_ ?_; exact o1_Cd
 by_cases h3 : kd = 3
 ·subst h3; rw [show sBt 3 b = 1 + b % 4 by simp [sBt], show sLn 3 l = 1 + (1 + l % 5) % 3 by simp [sLn], show sWt 3 l w = 0 by simp [sWt], show sCh 3 c = 1 + c % 4 by simp [sCh]]; refine go_ ?_; refine dr_ [blk g1 23 (sCells k f b l w c)] 15 ?_; refine y4_ 0 1 2 3 ?_; refine y4_ 4 5 6 7 ?_; refine y2_ 8 9 ?_; refine w1_ 10 ?_; refine o2_Cd ?_; refine vy_ 11 ?_; refine w1_ 12 ?_; refine o2_Cd ?_; refine vy_ 13 ?_; refine w1_ 14 ?_; refine o2_Cd ?_; refine vx_ ?_; refine go_ ?_; exact o1_Cd
 by_cases h4 : kd = 4
 ·subst h4; rw [show sBt 4 b = 0 by simp [sBt], show sLn 4 l = 1 + l % 5 by simp [sLn], show sWt 4 l w = 0 by simp [sWt], show sCh 4 c = 1 + c % 4 by simp [sCh]]; refine go_ ?_; refine dr_ [blk g1 23 (sCells k f b l w c)] 10 ?_; refine y4_ 0 1 2 3 ?_; refine y2_ 4 5 ?_; refine wy_ 6 ?_; refine w1_ 7 ?_; refine o2_Cd ?_; refine vy_ 8 ?_; refine w1_ 9 ?_; refine o2_Cd ?_; refine vx_ ?_; refine go_ ?_; exact o1_Cd
 by_cases h5 : kd = 5
 ·subst h5; rw [show sBt 5 b = 0 by simp [sBt], show sLn 5 l = 1 + l % 5 by simp [sLn], show sWt 5 l w = 1 + w % (1 + l % 5) by simp [sWt], show sCh 5 c = 1 + c % 4 by simp [sCh]]; refine go_ ?_; refine dr_ [blk g1 23 (sCells k f b l w c)] 10 ?_; refine y4_ 0 1 2 3 ?_; refine y2_ 4 5 ?_; refine wy_ 6 ?_; refine w1_ 7 ?_; refine o2_Cd ?_; refine vy_ 8 ?_; refine w1_ 9 ?_; refine o2_Cd ?_; refine vx_ ?_; refine go_ ?_; exact o1_Cd
 ·obtain rfl : kd = 1 := by omega
  rw [show sBt 1 b = 0 by simp [sBt], show sLn 1 l = 0 by simp [sLn], show sWt 1 l w = 0 by simp [sWt], show sCh 1 c = 0 by simp [sCh]]; refine go_ ?_; exact o1_Cd
end
section
def tagS (m : Int) : ByteArray := if m = 0 then ⟨#[]⟩ else if m = 1 then ⟨#[116]⟩ else ⟨#[116, 97, 108, 108, 121]⟩
def tagL : List Value := [.string ⟨#[]⟩, .string ⟨#[116]⟩, .string ⟨#[116, 97, 108, 108, 121]⟩]
theorem tag_nth {x : Int} (h : 0 ≤ x ∧ x ≤ 255) : nth tagL ((x % 3).toNat * 1) = some (.string (tagS (x % 3))) := by
 rcases (show x % 3 = 0 ∨ x % 3 = 1 ∨ x % 3 = 2 by omega) with e | e | e <;> rw [e] <;> rfl
structure Sk where
 k : Int
 f : Int
 b : Int
 l : Int
 w : Int
 c : Int
 p : Int
 t : Int
 hk : 0 ≤ k ∧ k ≤ 255
 hf : 0 ≤ f ∧ f ≤ 255
 hb : 0 ≤ b ∧ b ≤ 255
 hl : 0 ≤ l ∧ l ≤ 255
 hw : 0 ≤ w ∧ w ≤ 255
 hc : 0 ≤ c ∧ c ≤ 255
 hp : 0 ≤ p ∧ p ≤ 255
 ht : 0 ≤ t ∧ t ≤ 255
def Sk.cells (s : Sk) : List Value := sCells s.k s.f s.b s.l s.w s.c ++ [.int .u8 s.p, .int .u8 s.t]
def Sk.tc (s : Sk) : List Value := sC s.k s.f s.b s.l s.w s.c ++ [.int .i64 (1 + s.p % 3), .string (tagS (s.t % 3))]
theorem Sk.tc_one (s : Sk) : ∀ v ∈ s.tc, v.oneCell' = true := by
 intro v hv
 simp only [Sk.tc, sC, cCells, List.cons_append, List.nil_append, List.mem_cons, List.not_mem_nil, or_false] at hv
 rcases hv with rfl | rfl | rfl | rfl | rfl | rfl | rfl | rfl <;> rfl
open pCc
theorem e1_Ce (h : φ := by (refine wn_ ?_; refine wu_ 14 rfl (pu_build (v := .agg s.tc.toArray) rfl (fun W => by kernel_rfl)) ?_; refine w1_ 15 ?_; refine sl_store_whole rfl pick_ rfl (by rfl) (by rfl) s.tc_one ?_; refine vx_ ?_; refine go_ ?_; exact se_ret_c () trivial rfl rfl at_ rfl rfl rfl rfl sub_)) : φ := h
theorem stask_ok {K : List Fa} (s : Sk) :
  Fn Tryz.prog 7 #[.agg s.cells.toArray] K (Ret (fun _ : Unit => True) (fun _ => .agg s.tc.toArray) (fun _ => K)) := by
 refine fe_ Tryz.func7 Tryz.ntmps7 [(0, .agg s.cells.toArray)] ?_
 have h1 := s.hp
 have h2 := s.ht
 refine go_ ?_; refine bx_ ?_; intro g1; refine al_ ?_; intro g2; refine go_ ?_; refine dr_ [blk g1 25 s.cells] 16 ?_; refine y4_ 0 1 3 4 ?_; refine y4_ 5 6 7 9 ?_; refine y2_ 10 11 ?_; refine w2_ 2 8 ?_ ?_
 ·refine slc_ rfl rfl sub_ (scirc_ok s.hk s.hf s.hb s.hl s.hw s.hc) ?_; rintro _ -; refine v1_ 8 ?_; refine sl_build (size := 1) (e := 9) (cells := tagL) rfl (fun W => by kernel_rfl) rfl (by decide) rfl ?_; intro gb; refine vy_ 12 ?_; refine w1_ 13 ?_; refine sl_pu (pu_ldr (size := 1) (m := 3) (Vw.of_own (e := 9) (A := some ⟨gb, 0, none⟩) (c := 3) at_) (by omega) rfl rfl (tag_nth s.ht)) rfl ?_; exact e1_Ce
 ·refine sl_build (size := 1) (e := 9) (cells := tagL) rfl (fun W => by kernel_rfl) rfl (by decide) rfl ?_; intro gb; refine vy_ 12 ?_; refine w2_ 2 13 ?_ ?_
  ·refine slc_ rfl rfl sub_ (scirc_ok s.hk s.hf s.hb s.hl s.hw s.hc) ?_; rintro _ -; refine v1_ 13 ?_; refine sl_pu (pu_ldr (size := 1) (m := 3) (Vw.of_own (e := 9) (A := some ⟨gb, 0, none⟩) (c := 3) at_) (by omega) rfl rfl (tag_nth s.ht)) rfl ?_; exact e1_Ce
  ·refine sl_pu (pu_ldr (size := 1) (m := 3) (Vw.of_own (e := 9) (A := some ⟨gb, 0, none⟩) (c := 3) at_) (by omega) rfl rfl (tag_nth s.ht)) rfl ?_; refine v1_ 2 ?_; refine slc_ rfl rfl sub_ (scirc_ok s.hk s.hf s.hb s.hl s.hw s.hc) ?_; rintro _ -; exact e1_Ce
end
end
section
open Go.RowKit Go.MapKept
attribute [local irreducible] Go.Calls Go.Exit.then Go.Exit.inBlock Go.bodyPost Go.Code.wp Go.wpList hashL ofId
section
def Sk.ta (s : Sk) : Ta := ⟨1 + s.k % 5, 1 + s.f % 2, sBt (1 + s.k % 5) s.b, sLn (1 + s.k % 5) s.l, sWt (1 + s.k % 5) s.l s.w, sCh (1 + s.k % 5) s.c, 1 + s.p % 3, tagS (s.t % 3)⟩
theorem Sk.ta_c (s : Sk) : s.ta.c = s.tc := rfl
theorem tagS_le {m : Int} (h : m = 0 ∨ m = 1 ∨ m = 2) : ((tagS m).size : Int) ≤ 32 := by
 rcases h with rfl | rfl | rfl <;> decide
theorem small_ci {kd fl b l w c : Int} (hk : 1 ≤ kd ∧ kd ≤ 5) (hf : fl = 1 ∨ fl = 2) (hb : 0 ≤ b) (hl : 0 ≤ l) (hw : 0 ≤ w) (hc : 0 ≤ c) : ciErr kd fl (sBt kd b) (sLn kd l) (sWt kd l w) (sCh kd c) = 0 := by
 have h1 : 1 ≤ 1 + b % 4 ∧ 1 + b % 4 ≤ 4 := by omega
 have h2 : 1 ≤ 1 + (1 + l % 5) % 3 ∧ 1 + (1 + l % 5) % 3 ≤ 3 := by omega
 have h3 : 1 ≤ 1 + l % 5 ∧ 1 + l % 5 ≤ 5 := by omega
 have h4 : 1 ≤ 1 + w % (1 + l % 5) ∧ 1 + w % (1 + l % 5) ≤ 1 + l % 5 := ⟨by have := Int.emod_nonneg w (show 1 + l % 5 ≠ 0 by omega); omega, by have := Int.emod_lt_of_pos w (show 0 < 1 + l % 5 by omega); omega⟩
 have h5 : 1 ≤ 1 + c % 4 ∧ 1 + c % 4 ≤ 4 := by omega
 have hin : ∀ {x ch : Int}, 0 ≤ x → x ≤ 100 → 1 ≤ ch → ch ≤ 4 → ¬ 511 < (if 0 < ch then (x + ch - 1) / ch else 0) := by
  intro x ch a1 a2 a3 a4; rw [if_pos (by omega)]
  have := Int.ediv_le_self ch (show 0 ≤ x + ch - 1 by omega)
  omega
 unfold ciErr
 rw [if_neg (by simp [hf]), if_neg (by omega)]
 rcases (show kd = 1 ∨ kd = 2 ∨ kd = 3 ∨ kd = 4 ∨ kd = 5 by omega) with rfl | rfl | rfl | rfl | rfl
 ·simp [sBt, sLn, sWt, sCh, ciIn, wi, uB, uL, uW, callsN]
 ·have e : ciIn 2 (1 + b % 4) 0 0 0 = true := by simp [ciIn, wi, uB, uL, uW]; omega
  simp only [sBt, sLn, sWt, sCh]
  simp [e, callsN]
  omega
 ·have hm := mul_le (a := 1 + (1 + l % 5) % 3) (b := 1 + b % 4) (m := 3) (n := 4) (by omega) h2.2 (by omega) h1.2
  have e : ciIn 3 (1 + b % 4) (1 + (1 + l % 5) % 3) 0 (1 + c % 4) = true := by simp [ciIn, wi, uB, uL, uW]; omega
  have := hin (x := (1 + (1 + l % 5) % 3) * (1 + b % 4)) hm.1 (by omega) h5.1 h5.2
  rw [show sBt 3 b = 1 + b % 4 by simp [sBt], show sLn 3 l = 1 + (1 + l % 5) % 3 by simp [sLn], show sWt 3 l w = 0 by simp [sWt], show sCh 3 c = 1 + c % 4 by simp [sCh], if_neg (by simp [e]), show callsN 3 (1 + b % 4) (1 + (1 + l % 5) % 3) 0 (1 + c % 4) = if 0 < 1 + c % 4 then ((1 + (1 + l % 5) % 3) * (1 + b % 4) + (1 + c % 4) - 1) / (1 + c % 4) else 0 by simp [callsN, inN], if_neg this]
 ·have e : ciIn 4 0 (1 + l % 5) 0 (1 + c % 4) = true := by simp [ciIn, wi, uB, uL, uW]; omega
  have := hin (x := (1 + l % 5)) (by omega) (by omega) h5.1 h5.2
  rw [show sBt 4 b = 0 by simp [sBt], show sLn 4 l = 1 + l % 5 by simp [sLn], show sWt 4 l w = 0 by simp [sWt], show sCh 4 c = 1 + c % 4 by simp [sCh], if_neg (by simp [e]), show callsN 4 0 (1 + l % 5) 0 (1 + c % 4) = if 0 < 1 + c % 4 then ((1 + l % 5) + (1 + c % 4) - 1) / (1 + c % 4) else 0 by simp [callsN, inN], if_neg this]
 ·have hbl := bl_le (wt := 1 + w % (1 + l % 5)) (by omega) (by omega)
  rw [hbl.2] at hbl
  have e : ciIn 5 0 (1 + l % 5) (1 + w % (1 + l % 5)) (1 + c % 4) = true := by simp [ciIn, wi, uB, uL, uW]; omega
  have := hin (x := (1 + l % 5 + Lib.bitLen (1 + w % (1 + l % 5)).toNat)) (by omega) (by omega) h5.1 h5.2
  rw [show sBt 5 b = 0 by simp [sBt], show sLn 5 l = 1 + l % 5 by simp [sLn], show sWt 5 l w = 1 + w % (1 + l % 5) by simp [sWt], show sCh 5 c = 1 + c % 4 by simp [sCh], if_neg (by simp [e]), show callsN 5 0 (1 + l % 5) (1 + w % (1 + l % 5)) (1 + c % 4) = if 0 < 1 + c % 4 then ((1 + l % 5 + Lib.bitLen (1 + w % (1 + l % 5)).toNat) + (1 + c % 4) - 1) / (1 + c % 4) else 0 by simp [callsN, inN], if_neg this]
theorem Sk.ta_ok (s : Sk) : s.ta.err = 0 := by
 have h1 := s.hk
 have h2 := s.hf
 have h3 := s.hp
 have h4 := s.ht
 have h := small_ci (kd := 1 + s.k % 5) (fl := 1 + s.f % 2) (b := s.b) (l := s.l) (w := s.w) (c := s.c) (by omega) (by omega) s.hb.1 s.hl.1 s.hw.1 s.hc.1
 have ht := tagS_le (m := s.t % 3) (by omega)
 show tErr (1 + s.k % 5) (1 + s.f % 2) (sBt (1 + s.k % 5) s.b) (sLn (1 + s.k % 5) s.l) (sWt (1 + s.k % 5) s.l s.w) (sCh (1 + s.k % 5) s.c) (1 + s.p % 3) (tagS (s.t % 3)) = 0
 unfold tErr
 rw [if_neg (by simp [h]), if_neg (by omega)]
def s0 : Sk := ⟨0, 0, 0, 0, 0, 0, 0, 0, by decide, by decide, by decide, by decide, by decide, by decide, by decide, by decide⟩
open pGh
end
end
section
open Go.RowKit Go.ChangeShapes Go.WideShapes Go.Deep
section
variable {H : Type} {enc : TypeId × Value → H} {w : World} {base : Nat} {spare : Nat → Bool} {held : Bool} {fuel : Nat} {cs : List Value} {x : DataW H × List MemPlace}
end
section
variable {H : Type} {enc : TypeId × Value → H} {w : World} {base : Nat} {spare : Nat → Bool} {held : Bool} {fuel : Nat} {cs : List Value} {x : DataW H × List MemPlace}
theorem open_sm19 (h : DataW.trod enc Tryz.prog w base spare held fuel 87 cs = some x) : ∃ (z0 : Int) (z1 : Int) (z2 : Int), cs = [Value.int .u8 z0] ++ ([Value.int .u8 z1] ++ ([Value.int .u8 z2] ++ [])) ∧ (0 ≤ z0 ∧ z0 ≤ 255) ∧ (0 ≤ z1 ∧ z1 ≤ 255) ∧ (0 ≤ z2 ∧ z2 ≤ 255) := by
 obtain ⟨hl, m, hf⟩ := open_struct Tryz.underlying87 h
 have hl' : cs.length = 3 := hl.trans (by kernel_rfl)
 have n0 : Tryz.prog.cellsOf 5 = 1 := by kernel_rfl
 have n1 : Tryz.prog.cellsOf 5 = 1 := by kernel_rfl
 have n2 : Tryz.prog.cellsOf 5 = 1 := by kernel_rfl
 obtain ⟨y0, e0⟩ := hf 0 _ rfl
 have f0 : DataW.trod enc Tryz.prog w base spare held m 5 ((cs.drop 0).take (Tryz.prog.cellsOf 5)) = some y0 := e0
 rw [n0] at f0
 obtain ⟨y1, e1⟩ := hf 1 _ rfl
 have f1 : DataW.trod enc Tryz.prog w base spare held m 5 ((cs.drop 1).take (Tryz.prog.cellsOf 5)) = some y1 := e1
 rw [n1] at f1
 obtain ⟨y2, e2⟩ := hf 2 _ rfl
 have f2 : DataW.trod enc Tryz.prog w base spare held m 5 ((cs.drop 2).take (Tryz.prog.cellsOf 5)) = some y2 := e2
 rw [n2] at f2
 obtain ⟨z0, g0, _, u0⟩ := DataW.trod_int Tryz.underlying5 f0
 have b0 : 0 ≤ z0 ∧ z0 ≤ 255 := by simpa [Lit.wf, IntKind.min, IntKind.max, IntKind.signed, IntKind.bits] using u0
 obtain ⟨z1, g1, _, u1⟩ := DataW.trod_int Tryz.underlying5 f1
 have b1 : 0 ≤ z1 ∧ z1 ≤ 255 := by simpa [Lit.wf, IntKind.min, IntKind.max, IntKind.signed, IntKind.bits] using u1
 obtain ⟨z2, g2, _, u2⟩ := DataW.trod_int Tryz.underlying5 f2
 have b2 : 0 ≤ z2 ∧ z2 ≤ 255 := by simpa [Lit.wf, IntKind.min, IntKind.max, IntKind.signed, IntKind.bits] using u2
 have hp : cs = (cs.drop 0).take 1 ++ ((cs.drop 1).take 1 ++ ((cs.drop 2).take 1 ++ [])) := by
  rw [← piece_end hl', ← piece 2 1 3 rfl, ← piece 1 1 2 rfl, ← piece 0 1 1 rfl, List.drop_zero]
 rw [g0, g1, g2] at hp
 exact ⟨z0, z1, z2, hp, b0, b1, b2⟩
theorem open_sm10 (h : DataW.trod enc Tryz.prog w base spare held fuel 23 cs = some x) : ∃ (z0 : Int) (z1 : Int) (z2 : Int) (z3 : Int) (z4 : Int) (z5 : Int), cs = [Value.int .u8 z0] ++ ([Value.int .u8 z1] ++ ([Value.int .u8 z2] ++ ([Value.int .u8 z3] ++ ([Value.int .u8 z4] ++ ([Value.int .u8 z5] ++ []))))) ∧ (0 ≤ z0 ∧ z0 ≤ 255) ∧ (0 ≤ z1 ∧ z1 ≤ 255) ∧ (0 ≤ z2 ∧ z2 ≤ 255) ∧ (0 ≤ z3 ∧ z3 ≤ 255) ∧ (0 ≤ z4 ∧ z4 ≤ 255) ∧ (0 ≤ z5 ∧ z5 ≤ 255) := by
 obtain ⟨hl, m, hf⟩ := open_struct Tryz.underlying23 h
 have hl' : cs.length = 6 := hl.trans (by kernel_rfl)
 have n0 : Tryz.prog.cellsOf 5 = 1 := by kernel_rfl
 have n1 : Tryz.prog.cellsOf 5 = 1 := by kernel_rfl
 have n2 : Tryz.prog.cellsOf 5 = 1 := by kernel_rfl
 have n3 : Tryz.prog.cellsOf 5 = 1 := by kernel_rfl
 have n4 : Tryz.prog.cellsOf 5 = 1 := by kernel_rfl
 have n5 : Tryz.prog.cellsOf 5 = 1 := by kernel_rfl
 obtain ⟨y0, e0⟩ := hf 0 _ rfl
 have f0 : DataW.trod enc Tryz.prog w base spare held m 5 ((cs.drop 0).take (Tryz.prog.cellsOf 5)) = some y0 := e0
 rw [n0] at f0
 obtain ⟨y1, e1⟩ := hf 1 _ rfl
 have f1 : DataW.trod enc Tryz.prog w base spare held m 5 ((cs.drop 1).take (Tryz.prog.cellsOf 5)) = some y1 := e1
 rw [n1] at f1
 obtain ⟨y2, e2⟩ := hf 2 _ rfl
 have f2 : DataW.trod enc Tryz.prog w base spare held m 5 ((cs.drop 2).take (Tryz.prog.cellsOf 5)) = some y2 := e2
 rw [n2] at f2
 obtain ⟨y3, e3⟩ := hf 3 _ rfl
 have f3 : DataW.trod enc Tryz.prog w base spare held m 5 ((cs.drop 3).take (Tryz.prog.cellsOf 5)) = some y3 := e3
 rw [n3] at f3
 obtain ⟨y4, e4⟩ := hf 4 _ rfl
 have f4 : DataW.trod enc Tryz.prog w base spare held m 5 ((cs.drop 4).take (Tryz.prog.cellsOf 5)) = some y4 := e4
 rw [n4] at f4
 obtain ⟨y5, e5⟩ := hf 5 _ rfl
 have f5 : DataW.trod enc Tryz.prog w base spare held m 5 ((cs.drop 5).take (Tryz.prog.cellsOf 5)) = some y5 := e5
 rw [n5] at f5
 obtain ⟨z0, g0, _, u0⟩ := DataW.trod_int Tryz.underlying5 f0
 have b0 : 0 ≤ z0 ∧ z0 ≤ 255 := by simpa [Lit.wf, IntKind.min, IntKind.max, IntKind.signed, IntKind.bits] using u0
 obtain ⟨z1, g1, _, u1⟩ := DataW.trod_int Tryz.underlying5 f1
 have b1 : 0 ≤ z1 ∧ z1 ≤ 255 := by simpa [Lit.wf, IntKind.min, IntKind.max, IntKind.signed, IntKind.bits] using u1
 obtain ⟨z2, g2, _, u2⟩ := DataW.trod_int Tryz.underlying5 f2
 have b2 : 0 ≤ z2 ∧ z2 ≤ 255 := by simpa [Lit.wf, IntKind.min, IntKind.max, IntKind.signed, IntKind.bits] using u2
 obtain ⟨z3, g3, _, u3⟩ := DataW.trod_int Tryz.underlying5 f3
 have b3 : 0 ≤ z3 ∧ z3 ≤ 255 := by simpa [Lit.wf, IntKind.min, IntKind.max, IntKind.signed, IntKind.bits] using u3
 obtain ⟨z4, g4, _, u4⟩ := DataW.trod_int Tryz.underlying5 f4
 have b4 : 0 ≤ z4 ∧ z4 ≤ 255 := by simpa [Lit.wf, IntKind.min, IntKind.max, IntKind.signed, IntKind.bits] using u4
 obtain ⟨z5, g5, _, u5⟩ := DataW.trod_int Tryz.underlying5 f5
 have b5 : 0 ≤ z5 ∧ z5 ≤ 255 := by simpa [Lit.wf, IntKind.min, IntKind.max, IntKind.signed, IntKind.bits] using u5
 have hp : cs = (cs.drop 0).take 1 ++ ((cs.drop 1).take 1 ++ ((cs.drop 2).take 1 ++ ((cs.drop 3).take 1 ++ ((cs.drop 4).take 1 ++ ((cs.drop 5).take 1 ++ []))))) := by
  rw [← piece_end hl', ← piece 5 1 6 rfl, ← piece 4 1 5 rfl, ← piece 3 1 4 rfl, ← piece 2 1 3 rfl, ← piece 1 1 2 rfl, ← piece 0 1 1 rfl, List.drop_zero]
 rw [g0, g1, g2, g3, g4, g5] at hp
 exact ⟨z0, z1, z2, z3, z4, z5, hp, b0, b1, b2, b3, b4, b5⟩
def Sm10P (cs : List Value) : Prop := ∃ k f b l w c : Int, cs = sCells k f b l w c ∧ (0 ≤ k ∧ k ≤ 255) ∧ (0 ≤ f ∧ f ≤ 255) ∧ (0 ≤ b ∧ b ≤ 255) ∧ (0 ≤ l ∧ l ≤ 255) ∧ (0 ≤ w ∧ w ≤ 255) ∧ (0 ≤ c ∧ c ≤ 255)
theorem open_sm10c (h : DataW.trod enc Tryz.prog w base spare held fuel 23 cs = some x) : ∃ z : List Value, cs = z ∧ Sm10P z := by
 obtain ⟨k, f, b, l, w, c, h1, h2⟩ := open_sm10 h
 exact ⟨_, rfl, k, f, b, l, w, c, by rw [h1]; rfl, h2⟩
theorem open_sm13 (h : DataW.trod enc Tryz.prog w base spare held fuel 25 cs = some x) : ∃ (z0 : List Value) (z1 : Int) (z2 : Int), cs = z0 ++ ([Value.int .u8 z1] ++ ([Value.int .u8 z2] ++ [])) ∧ (Sm10P z0) ∧ (0 ≤ z1 ∧ z1 ≤ 255) ∧ (0 ≤ z2 ∧ z2 ≤ 255) := by
 obtain ⟨hl, m, hf⟩ := open_struct Tryz.underlying25 h
 have hl' : cs.length = 8 := hl.trans (by kernel_rfl)
 have n0 : Tryz.prog.cellsOf 23 = 6 := by kernel_rfl
 have n1 : Tryz.prog.cellsOf 5 = 1 := by kernel_rfl
 have n2 : Tryz.prog.cellsOf 5 = 1 := by kernel_rfl
 obtain ⟨y0, e0⟩ := hf 0 _ rfl
 have f0 : DataW.trod enc Tryz.prog w base spare held m 23 ((cs.drop 0).take (Tryz.prog.cellsOf 23)) = some y0 := e0
 rw [n0] at f0
 obtain ⟨y1, e1⟩ := hf 1 _ rfl
 have f1 : DataW.trod enc Tryz.prog w base spare held m 5 ((cs.drop 6).take (Tryz.prog.cellsOf 5)) = some y1 := e1
 rw [n1] at f1
 obtain ⟨y2, e2⟩ := hf 2 _ rfl
 have f2 : DataW.trod enc Tryz.prog w base spare held m 5 ((cs.drop 7).take (Tryz.prog.cellsOf 5)) = some y2 := e2
 rw [n2] at f2
 obtain ⟨z0, g0, b0⟩ := open_sm10c f0
 obtain ⟨z1, g1, _, u1⟩ := DataW.trod_int Tryz.underlying5 f1
 have b1 : 0 ≤ z1 ∧ z1 ≤ 255 := by simpa [Lit.wf, IntKind.min, IntKind.max, IntKind.signed, IntKind.bits] using u1
 obtain ⟨z2, g2, _, u2⟩ := DataW.trod_int Tryz.underlying5 f2
 have b2 : 0 ≤ z2 ∧ z2 ≤ 255 := by simpa [Lit.wf, IntKind.min, IntKind.max, IntKind.signed, IntKind.bits] using u2
 have hp : cs = (cs.drop 0).take 6 ++ ((cs.drop 6).take 1 ++ ((cs.drop 7).take 1 ++ [])) := by
  rw [← piece_end hl', ← piece 7 1 8 rfl, ← piece 6 1 7 rfl, ← piece 0 6 6 rfl, List.drop_zero]
 rw [g0, g1, g2] at hp
 exact ⟨z0, z1, z2, hp, b0, b1, b2⟩
def sm19C (a b c : Int) : List Value := [.int .u8 a, .int .u8 b, .int .u8 c]
def Sm19V (_ : World) (v : Value) : Prop := ∃ a b c : Int, v = .agg (sm19C a b c).toArray ∧ (0 ≤ a ∧ a ≤ 255) ∧ (0 ≤ b ∧ b ≤ 255) ∧ (0 ≤ c ∧ c ≤ 255)
theorem open_sm19_v {v : Value} (h : DataW.trod enc Tryz.prog w base spare held fuel 87 v.cells.toList = some x) (hv : ∃ cs, v = .agg cs) : Sm19V w v := by
 obtain ⟨cs, rfl⟩ := hv
 obtain ⟨a, b, c, h1, h2⟩ := open_sm19 h
 have h3 : cs.toList = sm19C a b c := h1
 exact ⟨a, b, c, by rw [← h3], h2⟩
def SkV (_ : World) (v : Value) : Prop := ∃ s : Sk, v = .agg s.cells.toArray
theorem open_sk_v {v : Value} (h : DataW.trod enc Tryz.prog w base spare held fuel 25 v.cells.toList = some x) (hv : ∃ cs, v = .agg cs) : SkV w v := by
 obtain ⟨cs, rfl⟩ := hv
 obtain ⟨z, p, t, h1, ⟨k, f, b, l, w, c, h2, hk, hf, hb, hl, hw, hc⟩, hp, ht⟩ := open_sm13 h
 subst h2
 have h3 : cs.toList = (Sk.cells ⟨k, f, b, l, w, c, p, t, hk, hf, hb, hl, hw, hc, hp, ht⟩) := h1
 exact ⟨_, by rw [← h3]⟩
end
end
section
open Go.RowKit Go.MapKept
attribute [local irreducible] Go.Calls Go.Exit.then Go.Exit.inBlock Go.bodyPost Go.Code.wp Go.wpList hashL ofId
section
def smR (a b c : Int) : Rl := ⟨1 + a % 12, 1 + b % 4, 1 + b % 4 + c % 6⟩
theorem Rl.len (r : Rl) : r.c.length = 3 := rfl
namespace pGk
theorem midx_ (h : φ := by first | exact boC_mt | exact boC_mr | exact bkC_mid | exact Ta.mid _ | exact tc_mid | exact Mid.all) : φ := h
theorem onex_ (h : φ := by first | exact Rl.one _ | exact Ta.one _ | exact one_bytes _) : φ := h
end pGk
open pGk
theorem smrules_ok {K : List Fa} {a b c : Int} (ha : 0 ≤ a ∧ a ≤ 255) (hb : 0 ≤ b ∧ b ≤ 255) (hc : 0 ≤ c ∧ c ≤ 255) :
  Fn Tryz.prog 28 #[.agg (sm19C a b c).toArray] K (Ret (fun _ : Unit => True) (fun _ => .agg (smR a b c).c.toArray) (fun _ => K)) := by
 refine fe_ Tryz.func28 Tryz.ntmps28 [(0, .agg (sm19C a b c).toArray)] ?_; refine go_ ?_; refine bx_ ?_; intro g1; refine go_ ?_; refine al_ ?_; intro g2; refine go_ ?_; refine sl_pu (pu_build (v := .agg #[.int .u64 (1 + a % 12), .int .i64 (1 + b % 4), .int .i64 0]) rfl (fun W => by kernel_rfl)) rfl ?_; refine go_ ?_; refine al_ ?_; intro g3; refine go_ ?_; exact se_ret_c () trivial rfl rfl at_ rfl rfl rfl rfl sub_
theorem Ta.len (t : Ta) : t.c.length = 8 := rfl
end
attribute [local irreducible] takeL recordL recL allL decR addV xorI gotB gotF
section
structure PS where
 i : Nat
 gu : Nat
 q : StM
 f : DF
 ck : Nat
 rw : RwT
 Ms : List Md
 pl : List Fa
 rs : List Evt
 k0 : Nat
 life : Int
 cb : Nat
 lm : Nat
abbrev PS.ls (z : PS) (t : Ta) : List (List Int) := z.rs.map (Evt.by_ t)
structure PC (t : Ta) (r : Rl) (lim : Int) (K : List Fa) (z : PS) (Ml : List Md) : Prop where
 can : CanE t r lim z.rs
 hq : Hq z.q (runE t r z.rs).1
 ql : z.q.life = (runE t r z.rs).2
 lf : ∀ j, z.k0 ≤ j → j ≤ z.rs.length → (runE t r (z.rs.take j)).2 = z.life
 ne : Ml ≠ []
 k0 : z.k0 + Ml.length = z.rs.length + 1
 ms : ∀ i M, Ml[i]? = some M → Hm M (runE t r (z.rs.take (z.k0 + i))).1
 mv : ∀ M ∈ Ml, MV (star z.pl :: K) M
 jf : JFl (z.ls t) (cellsA ((z.rs.take z.k0).map (Evt.by_ t)) * 64) z.f
 cl : cellsA (z.ls t) ≤ z.cb
 lb : z.life ≤ z.lm
structure RowOk (z : PS) : Prop where
 ok : z.rw.ok z.Ms.length
 xs : z.rw.xs z.Ms.length = z.Ms.map fun M => .pointer (some ⟨M.g, 0, none⟩)
section
variable {t : Ta} {r : Rl} {lim : Int} {K : List Fa} {z : PS} {Ml : List Md}
theorem PC.last (h : PC t r lim K z Ml) : ∃ X M, Ml = X ++ [M] ∧ Hm M (runE t r z.rs).1 ∧ MV (star z.pl :: K) M := by
 obtain ⟨X, M, rfl⟩ : ∃ X M, Ml = X ++ [M] := ⟨Ml.dropLast, Ml.getLast h.ne, (List.dropLast_concat_getLast h.ne).symm⟩
 refine ⟨X, M, rfl, ?_, h.mv M (by simp)⟩
 have h1 := h.ms X.length M (by simp)
 have h2 := h.k0
 rw [List.length_append, List.length_singleton] at h2
 rwa [List.take_of_length_le (by omega)] at h1
theorem PC.ga (h : PC t r lim K z Ml) (T : TR_ t r lim) : GA t r lim (runE t r z.rs).1 := CanE.ga T.l0 h.can
theorem PC.life (h : PC t r lim K z Ml) : (runE t r z.rs).2 = z.life := by
 have h1 := h.k0
 have h2 : 0 < Ml.length := List.length_pos_iff.2 h.ne
 have := h.lf z.rs.length (by omega) (Nat.le_refl _)
 rwa [List.take_length] at this
theorem PC.len (h : PC t r lim K z Ml) : Ml.length ≤ z.rs.length + 1 := by have := h.k0; omega
end
abbrev pJ (t : Ta) (r : Rl) (lim : Int) (gd md : Nat) (z : PS) (K : List Fa) : List Fa := sF z.gu t r lim z.q (jC z.q.gj gd sj (cellsA (z.ls t)) :: dB gd md 1048576 :: dM md [z.f] z.ck :: dS [z.f] :: K)
abbrev pH (t : Ta) (r : Rl) (lim : Int) (g9 g10 gd md : Nat) (z : PS) (K : List Fa) : List Fa := blk g9 34 t.c :: blk g10 38 r.c :: blk z.rw.g 89 z.rw.cur :: mds t r lim z.Ms :: pJ t r lim gd md z (star z.pl :: K)
abbrev pE (g9 g10 gd na cq : Nat) (lim : Int) (QA : Option Addr) (z : PS) : Env := [(9, .pointer (some ⟨g9, 0, none⟩)), (10, .pointer (some ⟨g10, 0, none⟩)), (11, .int .i64 lim), (12, .pointer (some ⟨gd, 0, none⟩)), (13, .pointer (some ⟨z.gu, 0, none⟩)), (15, z.rw.v z.Ms.length), (16, .int .u64 z.life), (66, .slice QA na cq), (67, .int .i64 na), (68, .int .i64 z.i)]
abbrev pM (g9 g10 gd na cq : Nat) (lim : Int) (QA : Option Addr) (z : PS) (v19 : Value) (e nt : Int) : Env := (19, v19) :: (22, .int .i64 e) :: (23, .int .i64 e) :: (24, .int .i64 nt) :: pE g9 g10 gd na cq lim QA z
theorem infoPt : (Tryz.prog.info? 89).map (fun i => (i.zero, i.size, i.bytes)) = some (some (.pointer none), 1, 8) := by kernel_rfl
theorem row_last {z : PS} {X : List Md} {M : Md} (hr : RowOk z) (hX : z.Ms = X ++ [M]) : nth (z.rw.xs z.Ms.length) X.length = some (.pointer (some ⟨M.g, 0, none⟩)) := by
 rw [hr.xs, nth_eq, hX, List.getElem?_map]
 simp
namespace pVk2
theorem nthx_ (h : φ := by first | exact bkC_n0 | rfl) : φ := h
end pVk2
open pVk2
section
variable {t : Ta} {r : Rl} {lim : Int} {K : List Fa} {z : PS} {g9 g10 gd md na cq : Nat} {QA : Option Addr} {v19 : Value} {e nt : Int} {Q' : Exit → Act → World → Prop}
theorem pTailB (T : TR_ t r lim) (hz : PC t r lim K z z.Ms) (hr : RowOk z) (hi : z.cb ≤ 14000) (hen : e ≠ 0 ∨ nt ≠ 1) (hend : ∀ {l : Env} {L : List Fa}, Has l (pE g9 g10 gd na cq lim QA z) → Sub L (pH t r lim g9 g10 gd md z K) → SE Q' .normal 351 l L) :
  SC Tryz.prog (cAt [false, false, false, false, false, false, false, false, false, true, false, true, true, false, false, true, true, false, false, false, false, false, false] (fb Tryz.f5)) Q' 351 (pM g9 g10 gd na cq lim QA z v19 e nt) (pH t r lim g9 g10 gd md z K) := by
 obtain ⟨X, M, hX, hm, hv⟩ := hz.last
 have hlen : z.Ms.length = X.length + 1 := by rw [hX]; simp
 have hnth := row_last hr hX
 have hga := hz.ga T
 have hcl := hz.cl
 have hel := hz.len
 have hrl := cells_len (z.ls t)
 rw [List.length_map] at hrl
 by_cases he : e = 0
 ·have hnt : nt ≠ 1 := hen.resolve_left (fun h => h he)
  subst he; refine go_ ?_; refine sl_pu (pu_ldr (rt_view (e := 89) (r := z.rw) (k := z.Ms.length) at_ hr.ok) (by omega) rfl rfl (by rw [show ((z.Ms.length : Int) - 1).toNat * 1 = X.length by omega]; exact hnth)) rfl ?_; refine go_ ?_; refine slc_ rfl rfl sub_ (psame' (K := blk g9 34 t.c :: blk g10 38 r.c :: blk z.rw.g 89 z.rw.cur :: jC z.q.gj gd sj (cellsA (z.ls t)) :: dB gd md 1048576 :: dM md [z.f] z.ck :: dS [z.f] :: star z.pl :: K) (X := X) (Y := []) (M := M) (g := z.gu) hX T hz.hq hm hga hga (hv.mono fun φ h => h.mono sub_)) ?_; rintro v hvv
  obtain rfl : v = true := hvv.2 rfl
  refine go_ ?_; exact hend has_ sub_
 ·refine go_ ?_; refine sl_pu (pu_ldr (rt_view (e := 89) (r := z.rw) (k := z.Ms.length) at_ hr.ok) (by omega) rfl rfl (by rw [show ((z.Ms.length : Int) - 1).toNat * 1 = X.length by omega]; exact hnth)) rfl ?_; refine go_ ?_; refine slc_ rfl rfl sub_ (psame' (K := blk g9 34 t.c :: blk g10 38 r.c :: blk z.rw.g 89 z.rw.cur :: jC z.q.gj gd sj (cellsA (z.ls t)) :: dB gd md 1048576 :: dM md [z.f] z.ck :: dS [z.f] :: star z.pl :: K) (X := X) (Y := []) (M := M) (g := z.gu) hX T hz.hq hm hga hga (hv.mono fun φ h => h.mono sub_)) ?_; rintro v hvv
  obtain rfl : v = true := hvv.2 rfl
  refine go_ ?_; exact hend has_ sub_
theorem pTailA {M : Md} (T : TR_ t r lim) (hz : PC t r lim K z (z.Ms ++ [M])) (hr : RowOk z) (hi : z.cb ≤ 14000) (hend : ∀ {l : Env} {L : List Fa} (z' : PS), PC t r lim K z' z'.Ms → RowOk z' → z'.i = z.i ∧ z'.cb = z.cb ∧ z'.lm = z.lm → Has l (pE g9 g10 gd na cq lim QA z') → Sub L (pH t r lim g9 g10 gd md z' K) → SE Q' .normal 351 l L) :
  SC Tryz.prog (cAt [false, false, false, false, false, false, false, false, false, true, false, true, true, false, false, true, true, false, false, false, false, false, false] (fb Tryz.f5)) Q' 351 (pM g9 g10 gd na cq lim QA z (.pointer (some ⟨M.g, 0, none⟩)) 0 1) (mdF t r lim M (pH t r lim g9 g10 gd md z K)) := by
 have hga := hz.ga T
 have hel := hz.len
 have hcl := hz.cl
 have hrl := cells_len (z.ls t)
 rw [List.length_map] at hrl
 rw [List.length_append, List.length_singleton] at hel
 have hm : Hm M (runE t r z.rs).1 := by
  have h1 := hz.ms z.Ms.length M (by simp)
  have h2 := hz.k0
  rw [List.length_append, List.length_singleton] at h2
  rwa [List.take_of_length_le (by omega)] at h1
 have hv : MV (star z.pl :: K) M := hz.mv M (by simp)
 refine go_ ?_; refine sl_build (size := 1) (e := 89) (cells := [.pointer (some ⟨M.g, 0, none⟩)]) rfl (fun W => by kernel_rfl) rfl (by decide) rfl ?_; intro gb; refine sl_appT (r := z.rw) (k := z.Ms.length) (v := .pointer (some ⟨M.g, 0, none⟩)) rfl hr.ok pick_ rfl (Vw.of_own (A := some ⟨gb, 0, none⟩) (c := 1) (e := 89) at_) rfl rfl infoPt (by decide) rfl (by unfold maxLen; omega) (by omega) ?_
 intro r' hr1 hr2
 obtain ⟨z', hz'⟩ : ∃ z' : PS, z' = { z with rw := r', Ms := z.Ms ++ [M] } := ⟨_, rfl⟩
 have hrow : RowOk z' := by
  rw [hz']; exact ⟨by show r'.ok (z.Ms ++ [M]).length; rw [List.length_append]; exact hr1, by show r'.xs (z.Ms ++ [M]).length = _; rw [List.length_append, List.length_singleton, hr2, hr.xs]; simp⟩
 have hpc : PC t r lim K z' z'.Ms := by
  rw [hz']; exact ⟨hz.can, hz.hq, hz.ql, hz.lf, hz.ne, hz.k0, hz.ms, hz.mv, hz.jf, hz.cl, hz.lb⟩
 have hnth : nth (r'.xs (z.Ms.length + 1)) z.Ms.length = some (.pointer (some ⟨M.g, 0, none⟩)) := by
  rw [hr2, nth_eq, hr.xs]
  simp
 refine go_ ?_; refine sl_pu (pu_ldr (rt_view (e := 89) (r := r') (k := z.Ms.length + 1) at_ hr1) (by omega) rfl rfl (by rw [show (((z.Ms.length + 1 : Nat) : Int) - 1).toNat * 1 = z.Ms.length by omega]; exact hnth)) rfl ?_; refine go_ ?_; refine sl_ent (L' := mds t r lim (z.Ms ++ [M]) :: blk g9 34 t.c :: blk g10 38 r.c :: blk r'.g 89 r'.cur :: pJ t r lim gd md z (star z.pl :: K)) ?_ ?_
 ·intro w hw
  have h1 : Sep w (mdF t r lim M (mds t r lim (z.Ms ++ []) :: blk g9 34 t.c :: blk g10 38 r.c :: blk r'.g 89 r'.cur :: pJ t r lim gd md z (star z.pl :: K))) := hw.sub (by rw [List.append_nil]; exact sub_)
  exact mds_in (X := z.Ms) (Y := []) w h1
 refine slc_ rfl rfl sub_ (psame' (K := blk g9 34 t.c :: blk g10 38 r.c :: blk r'.g 89 r'.cur :: jC z.q.gj gd sj (cellsA (z.ls t)) :: dB gd md 1048576 :: dM md [z.f] z.ck :: dS [z.f] :: star z.pl :: K) (X := z.Ms) (Y := []) (M := M) (g := z.gu) rfl T hz.hq hm hga hga (hv.mono fun φ h => h.mono sub_)) ?_; rintro v hvv
 obtain rfl : v = true := hvv.2 rfl
 refine go_ ?_; rw [show z.Ms.length + 1 = (z.Ms ++ [M]).length by simp]; refine hend z' hpc hrow (by rw [hz']; exact ⟨rfl, rfl, rfl⟩) ?_ ?_
 ·rw [hz']; exact has_
 ·rw [hz']; exact sub_
end
end
end
end Go.Proofs.YtocaabnbmcpjmaaGreat
