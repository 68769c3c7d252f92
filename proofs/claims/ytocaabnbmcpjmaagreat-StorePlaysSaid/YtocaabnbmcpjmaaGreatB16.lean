/- Several texts of one claim, one behind the other. -/
import Derived.Test.YtocaabnbmcpjmaaGreatB15
import Derived.Test.YtocaabnbmcpjmaaGreatB09
import Derived.Test.YtocaabnbmcpjmaaGreatB08
import Derived.Test.YtocaabnbmcpjmaaGreatB06
import Derived.WalkKit
import Derived.WalkLawsBesides
import Derived.Test.YtocaabnbmcpjmaaGreatB05
import Derived.Test.YtocaabnbmcpjmaaGreatB10
import Derived.Laws.Bits64
import Derived.Sort.AssemblyPlain
set_option linter.unusedVariables false
set_option linter.unusedSimpArgs false
set_option maxRecDepth 100000
set_option maxHeartbeats 16000000
namespace Go.Proofs.YtocaabnbmcpjmaaGreat
variable {φ ψ : Prop}
section
open Go.RowKit Go.MapKept
attribute [local irreducible] Go.Calls Go.Exit.then Go.Exit.inBlock Go.bodyPost Go.Code.wp Go.wpList takeL recordL hashL recL allL decR
section
def gotB (o : Option BK) (A : Option Addr) (c : Nat) : List Value := match o with
 | none => bkC 0 (tc A 0 c 0 zId) false
 | some b => bkC b.st (tc A b.l.length c b.m b.k) b.cl
def gotF (o : Option BK) (A : Option Addr) (c : Nat) : Fa := match o with
 | none => eo A 0 c []
 | some b => eo A b.l.length c b.l
theorem gotB_len {o : Option BK} {A : Option Addr} {c : Nat} : (gotB o A c).length = 20 := by
 cases o <;> exact bkC_len tc_len
theorem gotB_one {o : Option BK} {A : Option Addr} {c : Nat} : ∀ v ∈ gotB o A c, v.oneCell' = true := by
 cases o <;> exact bkC_one tc_one
theorem bgetC_any {K : List Fa} {g m ck : Nat} {t : Ta} {r : Rl} {fs : List BK} {s : Int} (hB : At (bB g t r m) K) (hM : At (bM m fs ck) K) (hS : At (bS fs) K) (hn : ∀ b ∈ fs, b.l.length ≤ 1000000) :
  Fn Tryz.prog 58 #[.pointer (some ⟨g, 0, none⟩), .int .u64 s] K (Ret (fun _ : Option Addr × Nat => True) (fun q => .tuple #[.agg (gotB (bfind fs s) q.1 q.2).toArray, .bool (bfind fs s).isSome]) (fun q => gotF (bfind fs s) q.1 q.2 :: K)) := by
 cases hf : bfind fs s with
 | none => exact bgetC_no hB hM (bfind_none hf)
 | some b =>
  obtain ⟨h1, h2⟩ := bfind_some hf
  have h := bgetC_ok (b := b) hB hM hS h1 (hn b h1)
  rw [h2] at h
  show Fn _ _ _ _ (Ret _ (fun q : Option Addr × Nat => .tuple #[.agg (bkC b.st (tc q.1 b.l.length q.2 b.m b.k) b.cl).toArray, .bool true]) _)
  rw [h2]; exact h
attribute [local irreducible] gotB gotF
namespace pUe
theorem nthx_ (h : φ := by first | exact h19 | rfl | exact bkC_n2 | exact bkC_n19' | exact stC9_n9) : φ := h
theorem midx_ (h : φ := by first | exact stC9_ci | exact stC9_mid | exact Mid.all) : φ := h
theorem szx_ (h : φ := by ((try simp only [gotB_len, bytes_length, Id.len, bkC_len tc_len, tc_len]); (first | done | rfl); first | done | fail)) : φ := h
theorem onex_ (h : φ := by first | exact gotB_one | exact bkC_one tc_one | exact tc_one | exact Rl.one _ | exact one_bytes _) : φ := h
end pUe
open pUe
theorem e1_Ue (h : φ := by (refine go_ ?_; refine sl_pu (pu_build (v := .agg tz.toArray) rfl (fun W => by kernel_rfl)) rfl ?_; refine go_ ?_; exact se_ret_ct () trivial rfl rfl at_ rfl rfl (by rw [tc_len]; rfl) rfl rfl sub_)) : φ := h
theorem sClose_no {K : List Fa} {g : Nat} {t : Ta} {r : Rl} {lim s : Int} {q : StM} (hw : 0 ≤ r.w) (h : 0 ≤ s ∧ s ≤ 18446744073709551615) (hn : ∀ b ∈ q.fs, b.l.length ≤ 1000000) (he : closeE r q.fs s ≠ 0) (hcl : ∀ b, bfind q.fs s = some b → b.cl = false) :
  Fn Tryz.prog 14 #[.pointer (some ⟨g, 0, none⟩), .int .u64 s] (sF g t r lim q K) (Ret (fun _ : Unit => True) (fun _ => .tuple #[.agg tz.toArray, .int .i64 (closeE r q.fs s)]) (fun _ => sF g t r lim q K)) := by
 refine fe_ Tryz.func14 Tryz.ntmps14 [(0, .pointer (some ⟨g, 0, none⟩)), (1, .int .u64 s)] ?_; refine go_ ?_; refine bx_ ?_; intro g3; refine go_ ?_; refine al_ ?_; intro g4; refine new_tc ?_; refine go_ ?_; refine sc_join (α := Nat × Option Addr × Nat) (fun z => [(0, .pointer (some ⟨g, 0, none⟩)), (3, .pointer (some ⟨g3, 0, none⟩)), (4, .pointer (some ⟨g4, 0, none⟩)), (6, .pointer (some ⟨z.1, 0, none⟩)), (7, .bool (bfind q.fs s).isSome)]) (fun z => blk z.1 70 (gotB (bfind q.fs s) z.2.1 z.2.2) :: gotF (bfind q.fs s) z.2.1 z.2.2 :: blk g4 58 tz :: blk g3 36 [.int .u64 s] :: sF g t r lim q K) (fun _ => True) ?_ ?_
 ·refine dr_ [sB g t q.gj q.gi q.gb q.mw q.ms q.life, blk g3 36 [.int .u64 s]] 12 ?_; refine y4_ 0 1 2 3 ?_; refine wy_ 4 ?_; refine w2_ 5 9 ?_ ?_
  ·refine slc_ rfl rfl Sub.refl (bgetC_any (g := q.gb) (m := q.mb) (ck := q.cb) (t := t) (r := r) (fs := q.fs) (s := s) at_ at_ at_ hn) ?_; rintro ⟨A1, c1⟩ -; dsimp only; refine vy_ 6 ?_; refine y2_ 7 8 ?_; refine w1_ 9 ?_; refine al_ ?_; intro g6; refine v1_ 10 ?_; refine sto_ ?_; refine vy_ 11 ?_; refine wx_ ?_; exact se_mid (g6, A1, c1) has_ sub_ trivial
  ·refine al_ ?_; intro g6; refine v1_ 5 ?_; refine slc_ rfl rfl Sub.refl (bgetC_any (g := q.gb) (m := q.mb) (ck := q.cb) (t := t) (r := r) (fs := q.fs) (s := s) at_ at_ at_ hn) ?_; rintro ⟨A1, c1⟩ -; dsimp only; refine vy_ 6 ?_; refine y2_ 7 8 ?_; refine w1_ 10 ?_; refine sto_ ?_; refine vy_ 11 ?_; refine wx_ ?_; exact se_mid (g6, A1, c1) has_ sub_ trivial
 rintro ⟨g6, A1, c1⟩ -; dsimp only
 have hcell : ∀ A c, nth (gotB (bfind q.fs s) A c) 19 = some (.bool false) := fun A c => by
  cases hf : bfind q.fs s with
  | none => unfold gotB; exact bkC_n19 tc_len
  | some b =>
   unfold gotB
   dsimp only; rw [hcl b hf]; exact bkC_n19 tc_len
 have h19 := hcell A1 c1
 refine sc_seq ?_; refine sc_join (α := Nat) (fun g8 => [(0, .pointer (some ⟨g, 0, none⟩)), (3, .pointer (some ⟨g3, 0, none⟩)), (4, .pointer (some ⟨g4, 0, none⟩)), (6, .pointer (some ⟨g6, 0, none⟩)), (7, .bool (bfind q.fs s).isSome)]) (fun _ => blk g6 70 (gotB (bfind q.fs s) A1 c1) :: blk g4 58 tz :: blk g3 36 [.int .u64 s] :: sF g t r lim q K) (fun _ => True) ?_ ?_
 ·cases hi : (bfind q.fs s).isSome with
  | false =>
   refine go_ ?_; exact se_mid 0 has_ sub_ trivial
  | true =>
   refine go_ ?_; exact se_mid 0 has_ sub_ trivial
 rintro _ -; refine go_ ?_; refine slc_ rfl rfl sub_ (rules_ok (g := q.gb) (m := q.mb) (t := t) (r := r) at_) ?_; rintro _ -; refine go_ ?_; refine al_ ?_; intro g8; refine go_ ?_; refine sc_join (α := Unit) (fun _ => [(0, .pointer (some ⟨g, 0, none⟩)), (3, .pointer (some ⟨g3, 0, none⟩)), (4, .pointer (some ⟨g4, 0, none⟩)), (6, .pointer (some ⟨g6, 0, none⟩)), (7, .bool (bfind q.fs s).isSome), (8, .pointer (some ⟨g8, 0, none⟩)), (40, .bool (decide (1099511627776 < s ∨ stN r.w s ≠ s)))]) (fun _ => blk g8 38 r.c :: blk g6 70 (gotB (bfind q.fs s) A1 c1) :: blk g4 58 tz :: blk g3 36 [.int .u64 s] :: sF g t r lim q K) (fun _ => True) ?_ ?_
 ·by_cases hmx : 1099511627776 < s
  ·rw [show decide (1099511627776 < s ∨ stN r.w s ≠ s) = true from decide_eq_true (.inl hmx)]; refine dr_ [blk g3 36 [.int .u64 s], blk g8 38 r.c] 10 ?_; refine y2_ 0 1 ?_; refine wy_ 2 ?_
   first | refine wy_ 3 ?_ | refine wo_ 3 ?_ | refine wp_ 3 ?_
   first | refine wy_ 4 ?_ | refine wo_ 4 ?_ | refine wp_ 4 ?_
   first | refine wy_ 6 ?_ | refine wo_ 6 ?_ | refine wp_ 6 ?_
   refine w1_ 5 ?_
   repeat refine su_ ?_
   refine wn_ ?_
   first | refine wy_ 7 ?_ | refine wo_ 7 ?_ | refine wp_ 7 ?_
   refine y2_ 8 9 ?_; refine wx_ ?_; exact se_mid () has_ sub_ trivial
  ·refine dr_ [blk g3 36 [.int .u64 s], blk g8 38 r.c] 10 ?_; refine y2_ 0 1 ?_; refine wy_ 2 ?_
   first | refine wy_ 3 ?_ | refine wo_ 3 ?_ | refine wp_ 3 ?_
   first | refine wy_ 4 ?_ | refine wo_ 4 ?_ | refine wp_ 4 ?_
   first | refine wy_ 6 ?_ | refine wo_ 6 ?_ | refine wp_ 6 ?_
   refine w1_ 5 ?_; refine sl_yes rfl rfl ?_; refine slc_ rfl rfl Sub.refl (start_ok (r := r) (now := s) hw h) ?_; rintro _ -; refine wn_ ?_
   first | refine wy_ 7 ?_ | refine wo_ 7 ?_ | refine wp_ 7 ?_
   refine y2_ 8 9 ?_; refine wx_ ?_; exact se_mid () (by rw [show decide (1099511627776 < s ∨ stN r.w s ≠ s) = !decide (stN r.w s = s) by simp [hmx]]; exact has_) sub_ trivial
 rintro _ -
 by_cases h15 : 1099511627776 < s ∨ stN r.w s ≠ s
 ·rw [show closeE r q.fs s = 15 by unfold closeE; rw [if_pos h15], decide_eq_true h15]; exact e1_Ue
 rw [decide_eq_false h15]
 cases hf : bfind q.fs s with
 | none =>
  rw [show closeE r q.fs s = 19 by unfold closeE; rw [if_neg h15, hf]]
  dsimp only [Option.isSome]
  exact e1_Ue
 | some b =>
  have hce : closeE r q.fs s = if b.m < r.mn then 17 else 0 := by unfold closeE; rw [if_neg h15, hf]
  have hm : b.m < r.mn := Decidable.byContradiction fun hc => he (by rw [hce, if_neg hc])
  rw [hce, if_pos hm]
  have e1 : gotB (some b) A1 c1 = bkC b.st (tc A1 b.l.length c1 b.m b.k) b.cl := by unfold gotB; rfl
  rw [e1]
  dsimp only [Option.isSome]
  exact e1_Ue
theorem bget_in {K : List Fa} {g m ck : Nat} {t : Ta} {r : Rl} {fs : List BK} {s : Int} {b : BK} (hB : At (bB g t r m) K) (hM : At (bM m fs ck) K) (hS : At (bS fs) K) (hf : bfind fs s = some b) (hn : b.l.length ≤ 1000000) :
  Fn Tryz.prog 58 #[.pointer (some ⟨g, 0, none⟩), .int .u64 s] K (Ret (fun _ : Option Addr × Nat => True) (fun q => .tuple #[.agg (bkC b.st (tc q.1 b.l.length q.2 b.m b.k) b.cl).toArray, .bool true]) (fun q => eo q.1 b.l.length q.2 b.l :: K)) := by
 obtain ⟨h1, h2⟩ := bfind_some hf
 have h := bgetC_ok (b := b) hB hM hS h1 hn
 rw [h2] at h
 rw [h2]; exact h
theorem BK.shut_cl {b : BK} (h : b.cl = true) : b.shut = b := by
 cases b
 simp only at h
 subst h
 rfl
theorem close_olde {K : List Fa} {g m ck : Nat} {t : Ta} {r : Rl} {fs X Y : List BK} {b : BK} {s : Int} (hq : fs = X ++ b :: Y) (hcl : b.cl = true) (hw : 0 ≤ r.w) (h : 0 ≤ s) (he : closeE r (X ++ b :: Y) s = 0) (hf : bfind (X ++ b :: Y) s = some b) (hn : b.l.length ≤ 1000000) :
  Fn Tryz.prog 59 #[.pointer (some ⟨g, 0, none⟩), .int .u64 s] (bB g t r m :: bM m fs ck :: bS fs :: K) (Ret (fun _ : Option Addr × Nat => True) (fun q => .tuple #[.agg (tc q.1 b.l.length q.2 b.m b.k).toArray, .int .i64 0]) (fun q => eo q.1 b.l.length q.2 b.l :: bB g t r m :: bM m fs ck :: bS fs :: K)) := by
 have h1 := close_ok (K := K) (g := g) (m := m) (ck := ck) (t := t) (r := r) (X := X) (Y := Y) (b := b) (s := s) hw h he hf hn
 rw [b.shut_cl hcl] at h1
 subst hq; exact h1
theorem close_newe {K : List Fa} {g m ck : Nat} {t : Ta} {r : Rl} {fs X Y : List BK} {b : BK} {s : Int} (hq : fs = X ++ b :: Y) (hw : 0 ≤ r.w) (h : 0 ≤ s) (he : closeE r (X ++ b :: Y) s = 0) (hf : bfind (X ++ b :: Y) s = some b) (hn : b.l.length ≤ 1000000) :
  Fn Tryz.prog 59 #[.pointer (some ⟨g, 0, none⟩), .int .u64 s] (bB g t r m :: bM m fs ck :: bS fs :: K) (Ret (fun _ : Option Addr × Nat => True) (fun q => .tuple #[.agg (tc q.1 b.l.length q.2 b.m b.k).toArray, .int .i64 0]) (fun q => eo q.1 b.l.length q.2 b.l :: bB g t r m :: bM m (X ++ b.shut :: Y) ck :: bS (X ++ b.shut :: Y) :: K)) := by
 subst hq; exact close_ok hw h he hf hn
theorem sClose_old {K : List Fa} {g : Nat} {t : Ta} {r : Rl} {lim s : Int} {q : StM} {X Y : List BK} {b : BK} (hw : 0 ≤ r.w) (h : 0 ≤ s) (hq : q.fs = X ++ b :: Y) (hf : bfind (X ++ b :: Y) s = some b) (hcl : b.cl = true) (he : closeE r (X ++ b :: Y) s = 0) (hbl : b.l.length ≤ 1000000) :
  Fn Tryz.prog 14 #[.pointer (some ⟨g, 0, none⟩), .int .u64 s] (sF g t r lim q K) (Ret (fun _ : Option Addr × Nat => True) (fun z => .tuple #[.agg (tc z.1 b.l.length z.2 b.m b.k).toArray, .int .i64 0]) (fun z => eo z.1 b.l.length z.2 b.l :: sF g t r lim q K)) := by
 refine fe_ Tryz.func14 Tryz.ntmps14 [(0, .pointer (some ⟨g, 0, none⟩)), (1, .int .u64 s)] ?_; refine go_ ?_; refine bx_ ?_; intro g3; refine go_ ?_; refine al_ ?_; intro g4; refine new_tc ?_; refine go_ ?_
 have hf0 : bfind q.fs s = some b := by rw [hq]; exact hf
 refine sc_join (α := Nat × Option Addr × Nat) (fun z => [(0, .pointer (some ⟨g, 0, none⟩)), (3, .pointer (some ⟨g3, 0, none⟩)), (4, .pointer (some ⟨g4, 0, none⟩)), (6, .pointer (some ⟨z.1, 0, none⟩)), (7, .bool true)]) (fun z => blk z.1 70 (bkC b.st (tc z.2.1 b.l.length z.2.2 b.m b.k) b.cl) :: eo z.2.1 b.l.length z.2.2 b.l :: blk g4 58 tz :: blk g3 36 [.int .u64 s] :: sF g t r lim q K) (fun _ => True) ?_ ?_
 ·refine dr_ [sB g t q.gj q.gi q.gb q.mw q.ms q.life, blk g3 36 [.int .u64 s]] 12 ?_; refine y4_ 0 1 2 3 ?_; refine wy_ 4 ?_; refine w2_ 5 9 ?_ ?_
  ·refine slc_ rfl rfl Sub.refl (bget_in (g := q.gb) (m := q.mb) (ck := q.cb) (t := t) (r := r) (fs := q.fs) (s := s) (b := b) at_ at_ at_ hf0 hbl) ?_; rintro ⟨A1, c1⟩ -; dsimp only; refine vy_ 6 ?_; refine y2_ 7 8 ?_; refine w1_ 9 ?_; refine al_ ?_; intro g6; refine v1_ 10 ?_; refine sto_ ?_; refine vy_ 11 ?_; refine wx_ ?_; exact se_mid (g6, A1, c1) has_ sub_ trivial
  ·refine al_ ?_; intro g6; refine v1_ 5 ?_; refine slc_ rfl rfl Sub.refl (bget_in (g := q.gb) (m := q.mb) (ck := q.cb) (t := t) (r := r) (fs := q.fs) (s := s) (b := b) at_ at_ at_ hf0 hbl) ?_; rintro ⟨A1, c1⟩ -; dsimp only; refine vy_ 6 ?_; refine y2_ 7 8 ?_; refine w1_ 10 ?_; refine sto_ ?_; refine vy_ 11 ?_; refine wx_ ?_; exact se_mid (g6, A1, c1) has_ sub_ trivial
 rintro ⟨g6, A1, c1⟩ -; dsimp only; rw [hcl]; refine sc_seq ?_; refine go_ ?_; refine dr_ [sB g t q.gj q.gi q.gb q.mw q.ms q.life, blk g3 36 [.int .u64 s]] 10 ?_; refine y4_ 0 1 2 3 ?_; refine wy_ 4 ?_; refine w1_ 5 ?_; refine slc_ rfl rfl sub_ (close_olde (K := blk g6 70 (bkC b.st (tc A1 b.l.length c1 b.m b.k) true) :: eo A1 b.l.length c1 b.l :: blk g4 58 tz :: blk g3 36 [.int .u64 s] :: sB g t q.gj q.gi q.gb q.mw q.ms q.life :: ixb q.gi q.iA q.ss.length q.ic lim :: ixo q.iA q.ic q.ss :: wM q.mw q.ws q.cw :: wS q.ws :: dMm q.ms q.sd q.cs :: dSs q.sd :: K) (g := q.gb) (m := q.mb) (ck := q.cb) (t := t) (r := r) hq hcl hw h he hf hbl) ?_; rintro ⟨A2, c2⟩ -; dsimp only; refine vy_ 6 ?_; refine wy_ 7 ?_; refine w1_ 8 ?_; refine sto_ ?_; refine vy_ 9 ?_; refine wx_ ?_; refine go_ ?_; exact se_ret_ct (A2, c2) trivial rfl rfl at_ rfl rfl (by rw [tc_len]; rfl) rfl rfl sub_
def StM.shutd (q : StM) (X Y : List BK) (b : BK) : StM := { q with fs := X ++ b.shut :: Y }
theorem rcShut_len {s : Int} : (4 :: rcShut s).length = 7 := by
 have h6 : (le s 6).length = 6 := le_len _ _
 simp [rcShut, h6]
theorem rcShut_bytes {s : Int} : IsBytes (4 :: rcShut s) := fun x hx => by
 rcases List.mem_cons.1 hx with e | e
 ·omega
 ·exact le_bytes _ _ x e
theorem fShut_ok {K : List Fa} {b c g3 : Nat} {A : Option Addr} {s : Int} {ty : TypeId} (h3 : At (blk g3 ty [.int .u64 s]) K) (hs : 0 ≤ s ∧ s ≤ 18446744073709551615) :
  Fn Tryz.prog 61 ([Value.pointer (some ⟨b, 0, none⟩)] ++ [Value.pointer (some ⟨g3, 0, none⟩)]).toArray (wrb b A [4].length c :: u8o A c [4] :: K) (Ret (fun _ : Option Addr × Nat => True) (fun _ => .tuple #[]) (fun q => wrb b q.1 (4 :: rcShut s).length q.2 :: u8o q.1 q.2 (4 :: rcShut s) :: K)) := by
 refine fe_ Tryz.func61 Tryz.ntmps61 [(0, .pointer (some ⟨b, 0, none⟩)), (1, .pointer (some ⟨g3, 0, none⟩))] ?_; refine go_ ?_; refine slc_ rfl rfl sub_ (wUint (b := b) (A := A) (c := c) (bs := [4]) (n := s) (k := 6) (by decide) hs.1 hs.2 (by decide)) ?_; rintro ⟨A1, c1⟩ -; refine go_ ?_; exact se_end0 (A1, c1) trivial rfl rfl sub_
structure ShR where
 A : Option Addr
 c : Nat
 f : DF
 ck : Nat
theorem sClose_new {K : List Fa} {g gd md σ ckd : Nat} {t : Ta} {r : Rl} {lim limd s : Int} {q : StM} {ls : List (List Int)} {fs : List DF} {X Y : List BK} {b : BK} (hw : 0 ≤ r.w) (h : 0 ≤ s) (hq : q.fs = X ++ b :: Y) (hf : bfind (X ++ b :: Y) s = some b) (hcl : b.cl = false) (he : closeE r (X ++ b :: Y) s = 0) (hbl : b.l.length ≤ 1000000)
  (hJ1 : JSt ls fs ckd σ) (hJ2 : cellsA ls ≤ 16000) (hJ3 : (((cellsA ls + 1) * 64 : Nat) : Int) ≤ limd) (hJ4 : limd ≤ 1048576) :
  Fn Tryz.prog 14 #[.pointer (some ⟨g, 0, none⟩), .int .u64 s] (sF g t r lim q (jC q.gj gd sj (cellsA ls) :: dB gd md limd :: dM md fs ckd :: dS fs :: K)) (Ret (fun z : ShR => JFl (ls ++ [4 :: rcShut s]) σ z.f) (fun z => .tuple #[.agg (tc z.A b.l.length z.c b.m b.k).toArray, .int .i64 0])
    (fun z => eo z.A b.l.length z.c b.l :: sF g t r lim (q.shutd X Y b) (jC q.gj gd sj (cellsA (ls ++ [4 :: rcShut s])) :: dB gd md limd :: dM md [z.f] z.ck :: dS [z.f] :: K))) := by
 obtain ⟨hc1, hc2, b', hb', hmn⟩ := closeE_0 he
 rw [hf] at hb'
 cases hb'
 have hs2 : 0 ≤ s ∧ s ≤ 18446744073709551615 := ⟨h, by omega⟩
 obtain ⟨K1, hK1⟩ : ∃ K1, K1 = jC q.gj gd sj (cellsA ls) :: dB gd md limd :: dM md fs ckd :: dS fs :: K := ⟨_, rfl⟩
 rw [← hK1]; refine fe_ Tryz.func14 Tryz.ntmps14 [(0, .pointer (some ⟨g, 0, none⟩)), (1, .int .u64 s)] ?_; refine go_ ?_; refine bx_ ?_; intro g3; refine go_ ?_; refine al_ ?_; intro g4; refine new_tc ?_; refine go_ ?_
 have hf0 : bfind q.fs s = some b := by rw [hq]; exact hf
 refine sc_join (α := Nat × Option Addr × Nat) (fun z => [(0, .pointer (some ⟨g, 0, none⟩)), (3, .pointer (some ⟨g3, 0, none⟩)), (4, .pointer (some ⟨g4, 0, none⟩)), (6, .pointer (some ⟨z.1, 0, none⟩)), (7, .bool true)]) (fun z => blk z.1 70 (bkC b.st (tc z.2.1 b.l.length z.2.2 b.m b.k) b.cl) :: eo z.2.1 b.l.length z.2.2 b.l :: blk g4 58 tz :: blk g3 36 [.int .u64 s] :: sF g t r lim q K1) (fun _ => True) ?_ ?_
 ·refine dr_ [sB g t q.gj q.gi q.gb q.mw q.ms q.life, blk g3 36 [.int .u64 s]] 12 ?_; refine y4_ 0 1 2 3 ?_; refine wy_ 4 ?_; refine w2_ 5 9 ?_ ?_
  ·refine slc_ rfl rfl Sub.refl (bget_in (g := q.gb) (m := q.mb) (ck := q.cb) (t := t) (r := r) (fs := q.fs) (s := s) (b := b) at_ at_ at_ hf0 hbl) ?_; rintro ⟨A1, c1⟩ -; dsimp only; refine vy_ 6 ?_; refine y2_ 7 8 ?_; refine w1_ 9 ?_; refine al_ ?_; intro g6; refine v1_ 10 ?_; refine sto_ ?_; refine vy_ 11 ?_; refine wx_ ?_; exact se_mid (g6, A1, c1) has_ sub_ trivial
  ·refine al_ ?_; intro g6; refine v1_ 5 ?_; refine slc_ rfl rfl Sub.refl (bget_in (g := q.gb) (m := q.mb) (ck := q.cb) (t := t) (r := r) (fs := q.fs) (s := s) (b := b) at_ at_ at_ hf0 hbl) ?_; rintro ⟨A1, c1⟩ -; dsimp only; refine vy_ 6 ?_; refine y2_ 7 8 ?_; refine w1_ 10 ?_; refine sto_ ?_; refine vy_ 11 ?_; refine wx_ ?_; exact se_mid (g6, A1, c1) has_ sub_ trivial
 rintro ⟨g6, A1, c1⟩ -; dsimp only; rw [hcl]; refine sc_seq ?_; refine go_ ?_; refine slc_ rfl rfl sub_ (rules_ok (g := q.gb) (m := q.mb) (t := t) (r := r) at_) ?_; rintro _ -; refine go_ ?_; refine al_ ?_; intro g8; refine go_ ?_; refine sc_join (α := Unit) (fun _ => [(0, .pointer (some ⟨g, 0, none⟩)), (3, .pointer (some ⟨g3, 0, none⟩)), (4, .pointer (some ⟨g4, 0, none⟩)), (6, .pointer (some ⟨g6, 0, none⟩)), (7, .bool true), (8, .pointer (some ⟨g8, 0, none⟩)), (40, .bool false)]) (fun _ => blk g8 38 r.c :: blk g6 70 (bkC b.st (tc A1 b.l.length c1 b.m b.k) false) :: blk g4 58 tz :: blk g3 36 [.int .u64 s] :: sF g t r lim q K1) (fun _ => True) ?_ ?_
 ·refine dr_ [blk g3 36 [.int .u64 s], blk g8 38 r.c] 10 ?_; refine y2_ 0 1 ?_; refine wy_ 2 ?_
  first | refine wy_ 3 ?_ | refine wo_ 3 ?_ | refine wp_ 3 ?_
  first | refine wy_ 4 ?_ | refine wo_ 4 ?_ | refine wp_ 4 ?_
  first | refine wy_ 6 ?_ | refine wo_ 6 ?_ | refine wp_ 6 ?_
  refine w1_ 5 ?_; refine sl_yes rfl rfl ?_; refine slc_ rfl rfl Sub.refl (start_ok (r := r) (now := s) hw hs2) ?_; rintro _ -; rw [hc2]; refine wn_ ?_
  first | refine wy_ 7 ?_ | refine wo_ 7 ?_ | refine wp_ 7 ?_
  refine y2_ 8 9 ?_; refine wx_ ?_; exact se_mid () has_ sub_ trivial
 rintro _ -; refine go_ ?_; subst hK1
 refine sl_call rfl rfl (by kernel_rfl) rfl sub_ (note_ok (K := blk g4 58 tz :: blk g3 36 [.int .u64 s] :: ixb q.gi q.iA q.ss.length q.ic lim :: ixo q.iA q.ic q.ss :: bB q.gb t r q.mb :: bM q.mb q.fs q.cb :: bS q.fs :: wM q.mw q.ws q.cw :: wS q.ws :: dMm q.ms q.sd q.cs :: dSs q.sd :: K)
   (g := g) (gj := q.gj) (gi := q.gi) (gb := q.gb) (mw := q.mw) (ms := q.ms) (gd := gd) (md := md) (t := t) (life := q.life) (lim := limd) (kind := 4) (f := 61) (caps := [.pointer (some ⟨g3, 0, none⟩)]) (bs := rcShut s)
   (by kernel_rfl) hJ1 rcShut_bytes (by rw [rcShut_len]; omega) hJ2 (by rw [rcShut_len]; exact hJ3) hJ4 (fun b A c => fShut_ok at_ hs2)) ?_
 rintro ⟨f, ck2⟩ hf2
 dsimp only at hf2 ⊢
 refine go_ ?_; refine dr_ [sB g t q.gj q.gi q.gb q.mw q.ms q.life, blk g3 36 [.int .u64 s]] 10 ?_; refine y4_ 0 1 2 3 ?_; refine wy_ 4 ?_; refine w1_ 5 ?_; refine slc_ rfl rfl sub_ (close_newe (K := blk g4 58 tz :: blk g3 36 [.int .u64 s] :: sB g t q.gj q.gi q.gb q.mw q.ms q.life :: ixb q.gi q.iA q.ss.length q.ic lim :: ixo q.iA q.ic q.ss :: wM q.mw q.ws q.cw :: wS q.ws :: dMm q.ms q.sd q.cs :: dSs q.sd :: jC q.gj gd sj (cellsA (ls ++ [4 :: rcShut s])) :: dB gd md limd :: dM md [f] ck2 :: dS [f] :: K) (g := q.gb) (m := q.mb) (ck := q.cb) (t := t) (r := r) hq hw h he hf hbl) ?_; rintro ⟨A2, c2⟩ -; dsimp only; refine vy_ 6 ?_; refine wy_ 7 ?_; refine w1_ 8 ?_; refine sto_ ?_; refine vy_ 9 ?_; refine wx_ ?_; refine go_ ?_; exact se_ret_ct ⟨A2, c2, f, ck2⟩ hf2 rfl rfl at_ rfl rfl (by rw [tc_len]; rfl) rfl rfl (by unfold StM.shutd; exact sub_)
end
end
section
open Go.RowKit Go.Sort Go.Shelf
section
theorem isNaNu_c (a : Int) (W : World) : Calls Tryz.prog 144 #[.int .u64 a] W fun e w' => e = .returned (.bool false) ∧ w' = W := by
 go_enter Tryz.func144, Tryz.ntmps144
 go_wp2
 go_ret
 exact ⟨by simp, rfl⟩
theorem cmpU_c (a b : Int) (W : World) : Calls Tryz.prog 115 #[.int .u64 a, .int .u64 b] W fun e w' => e = .returned (.int .i64 (if a < b then -1 else if b < a then 1 else 0)) ∧ w' = W := by
 go_enter Tryz.func115, Tryz.ntmps115
 go_wp2_with (go_at_call 144; refine (isNaNu_c _ _).mono ?_; rintro e w' ⟨rfl, rfl⟩)
 all_goals go_ret
 all_goals refine ⟨?_, rfl⟩
 all_goals simp_all
attribute [local irreducible] Go.Calls Go.Exit.then Go.Exit.inBlock Go.bodyPost Go.Code.wp Go.wpList
structure Gw (w0 w : World) : Prop where
 fr : Fr Nil w0 w
 dr : w0.drawn ≤ w.drawn
theorem Gw.refl (w : World) : Gw w w := ⟨Fr.refl _ _, Nat.le_refl _⟩
theorem Gw.trans {a b c : World} (h : Gw a b) (h' : Gw b c) : Gw a c := ⟨h.fr.trans h'.fr (fun _ _ e => e), Nat.le_trans h.dr h'.dr⟩
theorem Gw.alloc (w : World) (o : Obj) : Gw w (w.alloc o) := ⟨(Fr.refl Nil w).alloc _, Nat.le_refl _⟩
theorem Gw.drew (w : World) : Gw w w.drew := ⟨(Fr.refl Nil w).drew, Nat.le_succ _⟩
theorem Gw.grow {w0 w : World} (h : Gw w0 w) : ∃ q os, w = Go.Sort.grow (w0.drewN q) os := by
 obtain ⟨⟨h1, h2, h3, h4, h5⟩, h6⟩ := h
 refine ⟨w.drawn - w0.drawn, w.heap.extract w0.heap.size w.heap.size, ?_⟩
 have hh : w.heap = w0.heap ++ w.heap.extract w0.heap.size w.heap.size := by
  apply Array.ext_getElem?
  intro k
  by_cases hk : k < w0.heap.size
  ·rw [Array.getElem?_append_left hk]; exact h5 k hk (fun e => e)
  ·rw [Array.getElem?_append_right (by omega), Array.getElem?_extract]
   by_cases hk2 : k < w.heap.size
   ·rw [if_pos (by omega), show w0.heap.size + (k - w0.heap.size) = k by omega]
   ·rw [if_neg (by omega), Array.getElem?_eq_none (by omega)]
 cases w
 cases w0
 simp only [Go.Sort.grow, World.drewN] at *
 subst h1 h2 h3
 congr 1
 omega
section
variable {P : Program} {ops : Array Oper} {Q : Exit → Act → World → Prop} {n : Nat} {l : Env} {rest : List Oper} {d : Tmp} {ty t : TypeId} {pos : String} {after : Array Edge} {x : Operand} {op : Op} {w w0 : World} {v : Value} {cs : Array Value} {f : FuncId} {cap : List Value} {xs : List Operand} {vs : List Value} {ats : Array TypeId}
theorem wl_newG (hr : Ru P n l op ty w v (w.alloc (.cells cs t))) (hd : Nat.blt d n = true) (h : ∀ w', Gw w w' → Blk w' w.heap.size t cs → w'.heap.size = w.heap.size + 1 → WL P ops Q rest n ((d, v) :: l) w') : WL P ops Q (⟨some d, op, ty, pos, after, none⟩ :: rest) n l w :=
 wl_run hr hd (h _ (Gw.alloc _ _) (Blk.new w t cs) (by simp))
end
theorem blk_p {w : World} {g : Nat} {t : TypeId} {cs : List Value} (h : Blk w g t cs.toArray) : (blk g t cs).P w := by
 unfold blk
 exact h
theorem wst_ (k : ψ) (h : Hide ψ → φ := by (intro k; (repeat (first | ((refine wl_any ?_; first | refine wl_pu (pu_move rfl) rfl ?_ | refine wl_pu (pu_assign rfl) rfl ?_ | refine wl_yes rfl rfl ?_ | refine wl_no rfl rfl rfl ?_ | refine wl_off rfl rfl rfl ?_ | refine wl_pu (pu_pick_t rfl rfl) rfl ?_ | refine wl_pu (pu_pick_f rfl rfl) rfl ?_ | (refine wl_is (by exact .bin .lss) ?_; first | refine wl_pu (pu_lss_t rfl rfl (by omega)) rfl ?_ | refine wl_pu (pu_lss_f rfl rfl (by omega)) rfl ?_ | refine wl_pu (pu_lss rfl rfl) rfl ?_) | (refine wl_is (by exact .bin .gtr) ?_; first | refine wl_pu (pu_gtr_t rfl rfl (by omega)) rfl ?_ | refine wl_pu (pu_gtr_f rfl rfl (by omega)) rfl ?_ | refine wl_pu (pu_gtr rfl rfl) rfl ?_) | (refine wl_is (by exact .bin .leq) ?_; first | refine wl_pu (pu_leq_t rfl rfl (by omega)) rfl ?_ | refine wl_pu (pu_leq_f rfl rfl (by omega)) rfl ?_ | refine wl_pu (pu_leq rfl rfl) rfl ?_) | (refine wl_is (by exact .bin .geq) ?_; first | refine wl_pu (pu_geq_t rfl rfl (by omega)) rfl ?_ | refine wl_pu (pu_geq_f rfl rfl (by omega)) rfl ?_ | refine wl_pu (pu_geq rfl rfl) rfl ?_) | (refine wl_is (by exact .bin .eql) ?_; first | refine wl_pu (pu_eql_t rfl rfl (by omega)) rfl ?_ | refine wl_pu (pu_eql_f rfl rfl (by omega)) rfl ?_ | refine wl_pu (pu_eql rfl rfl) rfl ?_ | refine wl_pu (pu_bool_eql rfl rfl rfl) rfl ?_ | refine wl_pu (pu_str_eql_same rfl rfl) rfl ?_ | refine wl_pu (pu_str_eql rfl rfl) rfl ?_) | (refine wl_is (by exact .bin .neq) ?_; first | refine wl_pu (pu_neq_t rfl rfl (by omega)) rfl ?_ | refine wl_pu (pu_neq_f rfl rfl (by omega)) rfl ?_ | refine wl_pu (pu_neq rfl rfl) rfl ?_ | refine wl_pu (pu_bool_neq rfl rfl rfl) rfl ?_ | refine wl_pu (pu_str_neq_same rfl rfl) rfl ?_ | refine wl_pu (pu_str_neq rfl rfl) rfl ?_) | (refine wl_is (by exact .bin .add) ?_; first | refine wl_pu (pu_add_i rfl rfl (by omega)) rfl ?_ | refine wl_pu (pu_add_w rfl rfl) rfl ?_) | (refine wl_is (by exact .bin .sub) ?_; first | refine wl_pu (pu_sub_i rfl rfl (by omega)) rfl ?_ | refine wl_pu (pu_sub_w rfl rfl) rfl ?_) | (refine wl_is (by exact .bin .mul) ?_; first | refine wl_pu (pu_mul_i rfl rfl (by omega)) rfl ?_ | refine wl_pu (pu_mul_w rfl rfl) rfl ?_) | (refine wl_is (by exact .bin .rem) ?_; first | refine wl_pu (pu_rem_0 rfl rfl (by omega) (by omega)) rfl ?_) | (refine wl_is (by exact .bin .quo) ?_; first | refine wl_pu (pu_quo_i rfl rfl (by omega) (by omega) (by omega)) rfl ?_ | refine wl_pu (pu_quo_u rfl rfl (by omega) (by omega) (by omega)) rfl ?_ | refine wl_pu (pu_quo_0 rfl rfl (by omega) (by omega)) rfl ?_) | (refine wl_is (by exact .bin .or) ?_; first | refine wl_pu (pu_or rfl rfl) rfl ?_) | (refine wl_is (by exact .bin .and) ?_; first | refine wl_pu (pu_and rfl rfl) rfl ?_) | (refine wl_is (by exact .bin .xor) ?_; first | refine wl_pu (pu_xor rfl rfl) rfl ?_) | (refine wl_is (by exact .bin .shl) ?_; first | refine wl_pu (pu_shl rfl rfl (by omega) (by show _ ≤ ((64 : Nat) : Int); omega)) rfl ?_) | (refine wl_is (by exact .load) ?_; first | refine wl_ldb (by assumption) rfl rfl rfl rfl ?_ | refine wl_ld (by assumption) rfl rfl rfl ?_) | (refine wl_is (by exact .fa) ?_; first | refine wl_pu (pu_fieldAddr_0 rfl rfl rfl (by kernel_rfl)) rfl ?_ | refine wl_pu (pu_fieldAddr_b rfl rfl rfl (by kernel_rfl)) rfl ?_ | refine wl_pu (pu_fieldAddr rfl rfl rfl (by kernel_rfl)) rfl ?_) | (refine wl_is (by exact .un) ?_; first | refine wl_pu (pu_not_t rfl) rfl ?_ | refine wl_pu (pu_not_f rfl) rfl ?_ | refine wl_pu (pu_not rfl) rfl ?_ | refine wl_pu (pu_neg rfl) rfl ?_) | refine wl_pu (pu_extract rfl rfl) rfl ?_ | refine wl_pu (pu_makeFunc rfl) rfl ?_ | (refine wl_is (by exact .cv) ?_; first | refine wl_pu (pu_conv_i rfl rfl rfl (by omega)) rfl ?_ | refine wl_pu (pu_conv_u rfl rfl rfl (by omega)) rfl ?_ | refine wl_pu (pu_conv_8 rfl rfl rfl (by omega)) rfl ?_ | refine wl_pu (pu_conv rfl rfl rfl) rfl ?_) | (refine wl_is (by exact .bi) ?_; first | refine wl_pu (pu_len rfl rfl) rfl ?_ | refine wl_pu (pu_len_str rfl rfl) rfl ?_ | refine wl_pu (pu_min rfl rfl) rfl ?_ | refine wl_pu (pu_max rfl rfl) rfl ?_) | (refine wl_is (by exact .ia) ?_; first | refine wl_pu (pu_indexAddr_n rfl rfl rfl rfl (by omega)) rfl ?_ | refine wl_pu (pu_indexAddr_a rfl rfl rfl rfl (by omega)) rfl ?_ | refine wl_pu (pu_indexAddr rfl rfl rfl rfl (by omega) (by omega)) rfl ?_) | (refine wl_is (by exact .sl) ?_; first | refine wl_pu (pu_slice_a rfl rfl rfl (by omega)) rfl ?_ | refine wl_pu (pu_slice_arr rfl rfl rfl) rfl ?_ | refine wl_pu (pu_slice_h rfl rfl rfl rfl (by omega) (by omega)) rfl ?_ | refine wl_pu (pu_slice_l rfl rfl rfl rfl (by omega) (by omega) (by omega)) rfl ?_ | refine wl_pu (pu_slice_lh rfl rfl rfl rfl rfl (by omega) (by omega) (by omega)) rfl ?_))) | (first | refine wc_seq ?_ | refine wc_region ?_ | refine wl_nil ?_ | refine we_seq ?_ | refine wc_if_t rfl ?_ | refine wc_if_f rfl ?_ | refine wc_skip ?_ | refine wc_block ?_ | refine we_block ?_ | refine wc_exit ?_ | refine we_then_exit ?_ | refine we_block_hit ?_ | refine we_block_miss rfl ?_ | refine wc_ret ?_ | refine we_then_ret ?_ | refine we_block_ret ?_ | refine we_then_panic ?_ | refine we_block_panic ?_))); exact k.out)) : φ := h ⟨k⟩
theorem bytesCmp_c {W : World} {A B : Option Addr} {n c m d : Nat} {xs ys : List Int} (hx : Reads W 1 A n (bytes xs)) (hxb : IsBytes xs) (hy : Reads W 1 B m (bytes ys)) (hyb : IsBytes ys) :
  Calls Tryz.prog 145 #[.slice A n c, .slice B m d] W fun e w' => e = .returned (.int .i64 (cmpI xs ys)) ∧ Gw W w' := by
 refine wc_enter Tryz.func145 rfl _ Tryz.ntmps145 (by simp) [(0, .slice A n c), (1, .slice B m d)] (args_of (by simp)) ?_; refine wst_ ?_; refine wl_pu (pu_ext (cap := []) rfl rfl (fun W' hW => by subst hW; exact run_cmp hx hxb hy hyb)) rfl ?_; refine wst_ ?_; exact we_ret1 rfl rfl ⟨rfl, Gw.refl _⟩
theorem Reads.of_blkI {w : World} {g : Nat} {t : TypeId} {a : Id} (h : Blk w g t (bytes a.l).toArray) : Reads w 1 (some ⟨g, 0, none⟩) 16 (bytes a.l) := by
 have h1 : Sep w [blk g t (bytes a.l)] := sep_one (blk_p h)
 exact Vw.of_blk (L := [blk g t (bytes a.l)]) .here (by rw [bytes_length, a.len]) w h1
theorem cmpId_c (a b : Id) (W : World) : Calls Tryz.prog 116 #[a.v, b.v] W fun e w' => e = .returned (.int .i64 (cmpI a.l b.l)) ∧ Gw W w' := by
 refine wc_enter Tryz.func116 rfl _ Tryz.ntmps116 (by simp) [(0, a.v), (1, b.v)] (args_of (by simp)) ?_; refine wst_ ?_; refine wl_newG (ru_box rfl) rfl ?_; intro w1 g1 b1 s1; refine wl_newG (ru_box rfl) rfl ?_; intro w2 g2 b2 s2; refine wst_ ?_
 have b1' := b1.fr g2.fr (fun e => e)
 have b13 := b1'.fr (Gw.drew w2).fr (fun e => e)
 have b23 := b2.fr (Gw.drew w2).fr (fun e => e)
 refine wc_drawn (fun _ => True) (fun _ => true) (by kernel_rfl) 4 rfl ?_
 refine wd_take 0 rfl (by kernel_rfl) (by (repeat (first | exact nop_body | refine nop_then ?_ | refine nop_block ?_))) (pu_slice_arr rfl rfl rfl) rfl trivial ?_
 refine wd_take 1 rfl (by kernel_rfl) (by (repeat (first | exact nop_body | refine nop_then ?_ | refine nop_block ?_))) (pu_slice_arr rfl rfl rfl) rfl trivial ?_
 refine wd_call 2 (by kernel_rfl) rfl rfl rfl (by kernel_rfl) rfl (bytesCmp_c (Reads.of_blkI b13) a.ok (Reads.of_blkI b23) b.ok) ?_; rintro e w3 ⟨rfl, g3⟩
 refine ⟨_, rfl, fun _ => trivial, ?_⟩
 refine wd_pu 3 (by kernel_rfl) rfl (pu_assign rfl) rfl (fun _ => trivial) ?_; refine wd_done (by kernel_rfl) ?_; refine wst_ ?_; exact we_ret1 rfl rfl ⟨rfl, ((g1.trans g2).trans (Gw.drew _)).trans g3⟩
theorem or_c {W : World} {g : Nat} {a b : Int} (hb : Blk W g 3 #[.int .i64 a, .int .i64 b]) : Calls Tryz.prog 114 #[.slice (some ⟨g, 0, none⟩) 2 2] W fun e w' => e = .returned (.int .i64 (if a = 0 then b else a)) ∧ Gw W w' := by
 refine wc_enter Tryz.func114 rfl _ Tryz.ntmps114 (by simp) [(0, .slice (some ⟨g, 0, none⟩) 2 2)] (args_of (by simp)) ?_; refine wst_ ?_
 refine wc_for (fun j : Nat => [(3, .int .i64 0), (6, .slice (some ⟨g, 0, none⟩) 2 2), (7, .int .i64 2), (8, .int .i64 j)]) (fun j w => w = W ∧ j ≤ 2 ∧ (0 < j → a = 0) ∧ (1 < j → b = 0)) (fun j => 2 - j) 0 (by ((repeat (first | exact has_nil | refine has_cons rfl ?_)); first | done | fail)) ⟨rfl, Nat.zero_le _, by omega, by omega⟩ ?_
 rintro j w ⟨rfl, hj, ha, hb2⟩
 rcases Nat.lt_or_ge j 1 with h0 | h0
 ·obtain rfl : j = 0 := by omega
  by_cases hz : a = 0
  ·subst hz; refine wst_ ?_
   exact we_round 1 (by ((repeat (first | exact has_nil | refine has_cons rfl ?_)); first | done | fail)) ⟨rfl, by omega, fun _ => rfl, by omega⟩ (by decide)
  ·refine wst_ ?_; exact we_ret1 rfl rfl ⟨by rw [if_neg hz], Gw.refl _⟩
 rcases Nat.lt_or_ge j 2 with h1 | h1
 ·obtain rfl : j = 1 := by omega
  have hz := ha (by decide)
  subst hz
  by_cases hz : b = 0
  ·subst hz; refine wst_ ?_
   exact we_round 2 (by ((repeat (first | exact has_nil | refine has_cons rfl ?_)); first | done | fail)) ⟨rfl, by omega, fun _ => rfl, fun _ => rfl⟩ (by decide)
  ·refine wst_ ?_; exact we_ret1 rfl rfl ⟨by rw [if_pos rfl], Gw.refl _⟩
 ·obtain rfl : j = 2 := by omega
  have hz := ha (by decide)
  have hz2 := hb2 (by decide)
  subst hz hz2
  refine wst_ ?_; exact we_ret1 rfl rfl ⟨rfl, Gw.refl _⟩
end
attribute [local irreducible] Go.Calls Go.Exit.then Go.Exit.inBlock Go.bodyPost Go.Code.wp Go.wpList
section
instance seenInh : Inhabited Seen := ⟨seen0⟩
open pDf
theorem all_2 {w : World} {g h : Nat} {t : TypeId} {a b : List Value} (h1 : Blk w g t a.toArray) (h2 : Blk w h t b.toArray) : AllP w [blk g t a, blk h t b] := AllP.cons (blk_p h1) (AllP.cons (blk_p h2) AllP.nil)
theorem cfT_c (u v : Seen) (W : World) : Calls Tryz.prog 113 #[u.v, v.v] W fun e w' => e = .returned (.int .i64 (cfT u v)) ∧ Gw W w' := by
 refine wc_enter Tryz.func113 rfl _ Tryz.ntmps113 (by simp) [(0, u.v), (1, v.v)] (args_of (by simp)) ?_; refine wst_ ?_; refine wl_newG (ru_box rfl) rfl ?_; intro w1 g1 b1 s1; refine wl_newG (ru_box rfl) rfl ?_; intro w2 g2 b2 s2; refine wst_ ?_
 have c1 : Blk w2.drew W.heap.size 62 u.cells.toArray := (b1.fr g2.fr (fun e => e)).fr (Gw.drew w2).fr (fun e => e)
 have c2 : Blk w2.drew w1.heap.size 62 v.cells.toArray := b2.fr (Gw.drew w2).fr (fun e => e)
 have gg : Gw W w2.drew := (g1.trans g2).trans (Gw.drew _)
 clear b1 b2 g1 g2
 refine wc_drawn (fun W' => AllP W' [blk W.heap.size 62 u.cells, blk w1.heap.size 62 v.cells]) (fun _ => true) (by kernel_rfl) 13 rfl ?_
 generalize w2.drew = w3 at c1 c2 gg ⊢
 generalize w1.heap.size = h2 at c2 ⊢
 generalize hh1 : W.heap.size = h1 at c1 ⊢
 refine wd_take 0 rfl (by kernel_rfl) nop_ pa_ rfl (all_2 c1 c2) ?_; refine wd_take 1 rfl (by kernel_rfl) nop_ pa_ rfl (all_2 c1 c2) ?_; refine wd_take 2 rfl (by kernel_rfl) nop_ pa_ rfl (all_2 c1 c2) ?_; refine wd_take 3 rfl (by kernel_rfl) nop_ pa_ rfl (all_2 c1 c2) ?_; refine wd_take 5 rfl (by kernel_rfl) nop_ pa_ rfl (all_2 c1 c2) ?_; refine wd_take 6 rfl (by kernel_rfl) nop_ pa_ rfl (all_2 c1 c2) ?_; refine wd_take 7 rfl (by kernel_rfl) nop_ pa_ rfl (all_2 c1 c2) ?_; refine wd_take 8 rfl (by kernel_rfl) nop_ pa_ rfl (all_2 c1 c2) ?_; refine wd_call 4 (by kernel_rfl) rfl rfl rfl (by kernel_rfl) rfl (cmpU_c u.t v.t _) ?_; rintro e w4 ⟨rfl, rfl⟩
 refine ⟨_, rfl, fun _ => all_2 c1 c2, ?_⟩
 refine wd_call 9 (by kernel_rfl) rfl rfl rfl (by kernel_rfl) rfl (cmpId_c u.id v.id _) ?_; rintro e w5 ⟨rfl, g5⟩
 have d1 := c1.fr g5.fr (fun e => e)
 have d2 := c2.fr g5.fr (fun e => e)
 refine ⟨_, rfl, fun _ => all_2 d1 d2, ?_⟩
 generalize hn1 : (if u.t < v.t then (-1 : Int) else if v.t < u.t then 1 else 0) = n1
 refine wd_run 10 (by kernel_rfl) rfl (ru_buildSlice (e := 3) (k := 2) (cells := #[.int .i64 n1, .int .i64 (cmpI u.id.l v.id.l)]) rfl (fun W => by kernel_rfl)) rfl (fun _ => all_2 (d1.fr (Gw.alloc _ _).fr (fun e => e)) (d2.fr (Gw.alloc _ _).fr (fun e => e))) ?_
 have b5 := Blk.new w5 3 #[.int .i64 n1, .int .i64 (cmpI u.id.l v.id.l)]
 have e1 := d1.fr (Gw.alloc w5 (.cells #[.int .i64 n1, .int .i64 (cmpI u.id.l v.id.l)] 3)).fr (fun e => e)
 have e2 := d2.fr (Gw.alloc w5 (.cells #[.int .i64 n1, .int .i64 (cmpI u.id.l v.id.l)] 3)).fr (fun e => e)
 have g6 := Gw.alloc w5 (.cells #[.int .i64 n1, .int .i64 (cmpI u.id.l v.id.l)] 3)
 generalize w5.alloc (.cells #[.int .i64 n1, .int .i64 (cmpI u.id.l v.id.l)] 3) = w6 at b5 e1 e2 g6 ⊢
 refine wd_call 11 (by kernel_rfl) rfl rfl rfl (by kernel_rfl) rfl (or_c b5) ?_; rintro e w7 ⟨rfl, g7⟩
 refine ⟨_, rfl, fun _ => all_2 (e1.fr g7.fr (fun e => e)) (e2.fr g7.fr (fun e => e)), ?_⟩
 refine wd_pu 12 (by kernel_rfl) rfl (pu_assign rfl) rfl (fun _ => all_2 (e1.fr g7.fr (fun e => e)) (e2.fr g7.fr (fun e => e))) ?_; refine wd_done (by kernel_rfl) ?_; refine wst_ ?_
 refine we_ret1 rfl rfl ⟨?_, ((gg.trans g5).trans g6).trans g7⟩
 congr 2
 rw [← hn1]
 unfold cfT
 split
 ·rw [if_neg (by decide)]
 ·split
  ·rw [if_neg (by decide)]
  ·rw [if_pos rfl]
theorem sortT_ok {K : List Fa} {A : Option Addr} {c : Nat} {ds : List Seen} (hn : ds.length ≤ 1000000) :
  Fn Tryz.prog 112 #[.slice A ds.length c, .func (.func 113) #[] #[]] (ixo A c ds :: K) (Ret (fun d : List Seen => d.Perm ds ∧ d.Pairwise leT) (fun _ => .tuple #[]) (fun d => own 62 18 A ds.length c (rows Seen.cells d) :: K)) := by
 rcases Nat.eq_zero_or_pos ds.length with h0 | h0
 ·obtain rfl : ds = [] := List.eq_nil_of_length_eq_zero h0
  refine Fn.say sort_none (fun _ w _ hw => ⟨[], ⟨.refl _, .nil⟩, rfl, hw⟩)
 ·refine fn_know (own_form_at (e := 62) (size := 18) (A := A) (m := ds.length) (c := c) (xs := rows Seen.cells ds) .here h0) ?_; rintro ⟨g, rfl⟩
  have h1 := fn_sortK (enc := Seen.cells) (k := 18) (e := 62) (K := K) (g := g) (n := ds.length) (c := c) (d := ds.toArray) (P := Tryz.prog) (f := 112) (args := #[.slice (some ⟨g, 0, none⟩) ds.length c, .func (.func 113) #[] #[]]) Seen.len (Φ := fun d' => PermIn 0 ds.toArray.size ds.toArray d' ∧ SortedIn (ltOf cfT) 0 ds.toArray.size d') (fun w hH hg => by
    have hcon := AnyQ.slices_SortFunc sortR 18 (fun w => by kernel_rfl) (fun w => by kernel_rfl) Seen.cells Seen.len Seen.one cfT swo_T 113 #[] g 0 c ds.toArray w (fun args w => by kernel_rfl) (fun m os dk _ x y => (cfT_c x y _).mono fun e w' ⟨h1, h2⟩ => ⟨h1, h2.grow⟩) hH hg (by simp; omega)
    rw [List.size_toArray] at hcon
    refine hcon.mono ?_
    rintro x w' ⟨rfl, d', m, os, hp, hs, rfl⟩
    refine ⟨rfl, d', m, os, ⟨by rw [List.size_toArray]; exact hp, by rw [List.size_toArray]; exact hs⟩, ?_, rfl⟩
    rw [List.size_toArray]
    exact hp.1.symm ▸ (by simp))
  refine Fn.say (Fn.sub h1 (by show Sub (ixo _ _ _ :: K) (own _ 18 _ _ _ (ds.toArray.toList.flatMap Seen.cells) :: K); exact Sub.refl)) (fun d' w hφ hw => ?_)
  obtain ⟨⟨⟨hsz, _, hperm⟩, hsort⟩, _⟩ := hφ
  have e1 : d'.extract 0 ds.toArray.size = d' := by rw [← hsz]; exact Array.extract_size
  rw [e1, Array.extract_size] at hperm
  refine ⟨d'.toList, ⟨hperm, ?_⟩, rfl, hw⟩
  rw [List.pairwise_iff_getElem]; intro i j hi hj hij
  rw [Array.length_toList] at hi hj
  have h2 := hsort i j (Nat.zero_le _) hij (by rw [← hsz]; exact hj)
  unfold ltOf at h2
  rw [getElem!_pos d' i hi, getElem!_pos d' j hj, decide_eq_false_iff_not] at h2
  simp only [Array.getElem_toList]
  have h3 := cfT_swap d'[i] d'[j]
  show cfT d'[i] d'[j] ≤ 0
  omega
end
end
section
open Go.RowKit
attribute [local irreducible] Go.Calls Go.Exit.then Go.Exit.inBlock Go.bodyPost Go.Code.wp Go.wpList
section
open pDf
theorem withf_ok (f t : Int) {gf gt : Nat} {ty : TypeId} (L : List Fa) (s : Seen) (hL : Sub L [blk gf ty [.int .u64 f], blk gt ty [.int .u64 t]]) : Fn Tryz.prog 111 ([s.v] ++ [Value.pointer (some ⟨gf, 0, none⟩), Value.pointer (some ⟨gt, 0, none⟩)]).toArray L (Ret (fun _ : Unit => True) (fun _ => .bool (outside f t s)) (fun _ => L)) := by
 have h1 := sub_blk hL (List.mem_cons_self ..)
 have h2 := sub_blk hL (List.mem_cons_of_mem _ (List.mem_cons_self ..))
 refine fe_ Tryz.func111 Tryz.ntmps111 [(0, s.v), (1, .pointer (some ⟨gf, 0, none⟩)), (2, .pointer (some ⟨gt, 0, none⟩))] ?_; refine go_ ?_; refine bx_ ?_; intro gs
 by_cases h : s.t < f
 ·have e : outside f t s = true := by simp [outside, h]
  rw [e]; refine go_ ?_; exact r1_ ()
 ·have e : outside f t s = decide (t ≤ s.t) := by simp [outside, h]
  rw [e]
  by_cases h' : t ≤ s.t
  ·rw [decide_eq_true h']; refine go_ ?_; exact r1_ ()
  ·rw [decide_eq_false h']; refine go_ ?_; exact r1_ ()
def withL (ss : List Seen) (f t : Int) : List Seen := sortT (ss.filter fun s => !outside f t s)
theorem within_ok {K : List Fa} {x c : Nat} {A : Option Addr} {ss : List Seen} {lim : Int} (f t : Int) (hs : Srt ss) (hn : ss.length ≤ 1000000) :
  Fn Tryz.prog 71 #[.pointer (some ⟨x, 0, none⟩), .int .u64 f, .int .u64 t] (ixb x A ss.length c lim :: ixo A c ss :: K) (Ret (fun _ : Option Addr × Nat => True) (fun p => .slice p.1 (withL ss f t).length p.2) (fun p => ixo p.1 p.2 (withL ss f t) :: ixb x A ss.length c lim :: ixo A c ss :: K)) := by
 have hfl := List.length_filter_le (fun s => !outside f t s) ss
 refine fe_ Tryz.func71 Tryz.ntmps71 [(0, .pointer (some ⟨x, 0, none⟩)), (1, .int .u64 f), (2, .int .u64 t)] ?_; refine go_ ?_; refine bx_ ?_; intro g4; refine bx_ ?_; intro g5; refine go_ ?_; refine slc_ rfl rfl sub_ (list_ok (A := A) (c := c) (lim := lim) hn) ?_; rintro ⟨A1, c1⟩ -; refine go_ ?_; refine slc_ rfl rfl sub_ (delete_ok (C := [blk g4 36 [.int .u64 f], blk g5 36 [.int .u64 t]]) (A := A1) (c := c1) (ss := ss) (K := blk g4 36 [.int .u64 f] :: blk g5 36 [.int .u64 t] :: ixb x A ss.length c lim :: ixo A c ss :: K) (by kernel_rfl) (fun L s hL => withf_ok f t L s hL) sub_ (by omega)) ?_; rintro _ -; refine go_ ?_; refine slc_ rfl rfl Sub.refl (sortT_ok (A := A1) (c := c1) (ds := ss.filter fun s => !outside f t s) (by omega)) ?_; rintro d ⟨hp, hd⟩
 have he : d = withL ss f t := sort_one (srt_filter hs _) hp hd
 have hl : (ss.filter fun s => !outside f t s).length = (withL ss f t).length := by rw [← he]; exact hp.length_eq.symm
 rw [he, hl]; refine go_ ?_; exact r1_ (A1, c1)
structure Ac where
 k : Int
 b : Int
 a : Id
 t : Int
 c : Int
 r : Bool
 kb : 0 ≤ k ∧ k ≤ 255
 bb : 0 ≤ b ∧ b ≤ 255
 tb : 0 ≤ t ∧ t ≤ 18446744073709551615
 cb : -9223372036854775808 ≤ c ∧ c ≤ 9223372036854775807
def Ac.cells (a : Ac) : List Value := .int .u8 a.k :: .int .u8 a.b :: (bytes a.a.l ++ [.int .u64 a.t, .int .i64 a.c, .bool a.r])
theorem Ac.len (a : Ac) : a.cells.length = 21 := by simp [Ac.cells, bytes, a.a.len]
theorem Ac.one (a : Ac) : ∀ v ∈ a.cells, v.oneCell' = true := by
 intro v hv
 simp only [Ac.cells, List.mem_cons, List.mem_append, List.not_mem_nil, or_false] at hv
 rcases hv with rfl | rfl | hv | rfl | rfl | rfl
 ·rfl
 ·rfl
 ·exact one_bytes _ v hv
 ·rfl
 ·rfl
 ·rfl
theorem Ac.n0 (a : Ac) : nth a.cells 0 = some (.int .u8 a.k) := rfl
theorem Ac.n1 (a : Ac) : nth a.cells 1 = some (.int .u8 a.b) := rfl
theorem Ac.nn (a : Ac) {i : Nat} : nth a.cells (18 + i) = nth [Value.int .u64 a.t, .int .i64 a.c, .bool a.r] i := by
 rw [nth_eq, nth_eq]
 show (Value.int .u8 a.k :: Value.int .u8 a.b :: (bytes a.a.l ++ [Value.int .u64 a.t, .int .i64 a.c, .bool a.r]))[18 + i]? = _
 rw [show 18 + i = (16 + i) + 1 + 1 by omega, List.getElem?_cons_succ, List.getElem?_cons_succ, List.getElem?_append_right (by rw [bytes_length, a.a.len]; omega), bytes_length, a.a.len, show 16 + i - 16 = i by omega]
theorem Ac.mid (a : Ac) : Mid a.cells 2 (bytes a.a.l) := Mid.of_append (a := [Value.int .u8 a.k, Value.int .u8 a.b]) rfl
end
end
section
open Go.RowKit Go.Sort
attribute [local irreducible] Go.Calls Go.Exit.then Go.Exit.inBlock Go.bodyPost Go.Code.wp Go.wpList
section
abbrev uo (g n c : Nat) (d : Array Int) : Fa := own 36 1 (some ⟨g, 0, none⟩) n c (nums .u64 d.toList)
theorem un_get {d : Array Int} {k : Nat} (h : k < d.size) : nth (nums .u64 d.toList) k = some (.int .u64 d[k]!) := by
 rw [nth_eq]
 unfold nums
 rw [List.getElem?_map, Array.getElem?_toList, Array.getElem?_eq_getElem h, getElem!_pos d k h]
 rfl
theorem un_nth1 {d : Array Int} {k : Nat} (h : k < d.size) : nth (nums .u64 d.toList) (k * 1) = some (.int .u64 d[k]!) := by rw [Nat.mul_one]; exact un_get h
theorem un_nth0 {d : Array Int} {k : Nat} (h : k < d.size) : nth (nums .u64 d.toList) (0 + k * 1) = some (.int .u64 d[k]!) := by rw [Nat.zero_add, Nat.mul_one]; exact un_get h
theorem get_k {d : Array Int} {k j : Nat} (h : k = j) : d[k]! = d[j]! := by rw [h]
theorem lt_k {d : Array Int} {p q i j : Nat} {b : Bool} (hp : p = i) (hq : q = j) (h : ltInt d[i]! d[j]! = b) : ltInt d[p]! d[q]! = b := by rw [hp, hq, h]
theorem at1k {g k i : Nat} (h : k * 1 = i) : (⟨g, 0, none⟩ : Addr).add (k * 1) = ⟨g, i, none⟩ := by rw [at1, h]
theorem swp_nums {d : Array Int} {i j : Nat} : ((nums .u64 d.toList).set i (.int .u64 d[j]!)).set j (.int .u64 d[i]!) = nums .u64 (swp d i j).toList := by
 unfold nums swp
 simp
section
variable {P : Program} {ops : Array Oper} {Q : Exit → Act → World → Prop} {m : Nat} {l : Env} {L L' : List Fa} {rest : List Oper} {t ty : TypeId} {pos : String} {after : Array Edge} {x y : Operand} {g n c i j : Nat} {p : Addr} {d : Array Int} {a b : Int}
theorem sl_swp (hx : ev l x = some (.pointer (some p))) (hpe : p = ⟨g, j, none⟩) (hp : Pick (own 36 1 (some ⟨g, 0, none⟩) n c ((nums .u64 d.toList).set i (.int .u64 a))) L L') (hy : ev l y = some (.int .u64 b)) (ha : a = d[j]!) (hb : b = d[i]!) (ht : szOf P t = some 1) (hj : j < n * 1)
  (h : SL P ops Q rest m l (uo g n c (swp d i j) :: L')) : SL P ops Q (⟨none, .store t x y, ty, pos, after, none⟩ :: rest) m l L := by
 subst ha hb
 refine sl_sto2 hx hpe hp hy rfl ht hj ?_; rw [swp_nums]; exact h
end
theorem swp_sz {d : Array Int} {n : Nat} (h : d.size = n) (i j : Nat) : (swp d i j).size = n := by rw [size_swp, h]
namespace pQa
theorem nthx_ (h : φ := by first | exact un_nth1 (by omega) | exact un_nth0 (by omega)) : φ := h
end pQa
open pQa
theorem isNaN_ok {K : List Fa} {x : Int} : Fn Tryz.prog 144 #[.int .u64 x] K (Ret (fun _ : Unit => True) (fun _ => .bool false) (fun _ => K)) := by
 refine fe_ Tryz.func144 Tryz.ntmps144 [(0, .int .u64 x)] ?_; refine go_ ?_; exact r1_ ()
theorem qless_ok {K : List Fa} {x y : Int} {b : Bool} (h : ltInt x y = b) : Fn Tryz.prog 182 #[.int .u64 x, .int .u64 y] K (Ret (fun _ : Unit => True) (fun _ => .bool b) (fun _ => K)) := by
 refine fe_ Tryz.func182 Tryz.ntmps182 [(0, .int .u64 x), (1, .int .u64 y)] ?_
 unfold ltInt at h
 cases b with
 | true =>
  rw [decide_eq_true_eq] at h
  refine go_ ?_; refine slc_ rfl rfl sub_ isNaN_ok ?_; rintro _ -; refine go_ ?_; exact r1_ ()
 | false =>
  rw [decide_eq_false_iff_not] at h
  refine go_ ?_; refine slc_ rfl rfl sub_ isNaN_ok ?_; rintro _ -; refine go_ ?_; exact r1_ ()
theorem ins_step {a j : Nat} {e : Array Int} (h1 : a < j + 1) (hb : ltInt e[j + 1]! e[j]! = true) : insInner ltInt a (j + 1) e = insInner ltInt a j (swp e (j + 1) j) := by
 rw [insInner, if_pos (by simp [h1, hb])]
theorem ins_stop {a j : Nat} {e : Array Int} (hb : ltInt e[j + 1]! e[j]! = false) : insInner ltInt a (j + 1) e = e := by
 rw [insInner, if_neg (by simp [hb])]
theorem ins_end {a j : Nat} {e : Array Int} (h1 : ¬ a < j) : insInner ltInt a j e = e := by
 cases j with
 | zero => rfl
 | succ j => rw [insInner, if_neg (by simp; omega)]
theorem insSort_ok {K : List Fa} {g n c a b : Nat} {d : Array Int} (hd : d.size = n) (hab : a ≤ b) (hb : b ≤ n) (hn : n ≤ 1000000) :
  Fn Tryz.prog 176 #[.slice (some ⟨g, 0, none⟩) n c, .int .i64 a, .int .i64 b] (uo g n c d :: K) (Ret (fun _ : Unit => True) (fun _ => .tuple #[]) (fun _ => uo g n c (insertionSort ltInt d a b) :: K)) := by
 refine fe_ Tryz.func176 Tryz.ntmps176 [(0, .slice (some ⟨g, 0, none⟩) n c), (1, .int .i64 a), (2, .int .i64 b)] ?_
 generalize hF : insertionSort ltInt d a b = F
 unfold insertionSort at hF
 refine go_ ?_; refine sc_for (α := Nat × Array Int) (fun p => [(0, .slice (some ⟨g, 0, none⟩) n c), (1, .int .i64 a), (2, .int .i64 b), (6, .int .i64 p.1)]) (fun p => uo g n c p.2 :: K) (fun p => p.2.size = n ∧ insOuter ltInt a b p.1 p.2 = F) (fun p => b - p.1) (a + 1, d) has_ sub_ ⟨hd, hF⟩ ?_; rintro ⟨i, e⟩ ⟨hes, heF⟩
 dsimp only at hes heF ⊢
 rw [insOuter] at heF
 by_cases hi : i < b
 case neg =>
  rw [if_neg hi] at heF
  subst heF; refine go_ ?_; exact se_end0 () trivial rfl rfl sub_
 rw [if_pos hi] at heF
 refine go_ ?_; refine sc_for (α := Nat × Array Int) (fun p => [(0, .slice (some ⟨g, 0, none⟩) n c), (1, .int .i64 a), (2, .int .i64 b), (6, .int .i64 i), (7, .int .i64 p.1)]) (fun p => uo g n c p.2 :: K) (fun p => p.2.size = n ∧ p.1 < n ∧ insOuter ltInt a b (i + 1) (insInner ltInt a p.1 p.2) = F) (fun p => p.1) (i, e) has_ sub_ ⟨hes, by omega, heF⟩ ?_; rintro ⟨j, e'⟩ ⟨hes', hj, heF'⟩
 dsimp only at hes' hj heF' ⊢
 by_cases h1 : a < j
 case neg =>
  rw [ins_end h1] at heF'
  refine go_ ?_; refine sq_region (by kernel_rfl) (by kernel_rfl) ?_
  repeat refine rq_ ?_
  refine sq_end ?_; refine go_ ?_; exact se_round (i + 1, e') has_ sub_ ⟨hes', heF'⟩ (by dsimp only; omega)
 obtain ⟨j, rfl⟩ : ∃ k, j = k + 1 := ⟨j - 1, by omega⟩
 cases hl : ltInt e'[j + 1]! e'[j]! with
 | false =>
  rw [ins_stop hl] at heF'
  refine go_ ?_; refine sq_region (by kernel_rfl) (by kernel_rfl) ?_
  repeat refine rq_ ?_
  refine WQ_call rfl rfl (by kernel_rfl) rfl (qless_ok (lt_k (by omega) (by omega) hl)) ?_
  repeat refine rq_ ?_
  refine sq_end ?_; refine go_ ?_; exact se_round (i + 1, e') has_ sub_ ⟨hes', heF'⟩ (by dsimp only; omega)
 | true =>
  rw [ins_step (by omega) hl] at heF'
  refine go_ ?_; refine sq_region (by kernel_rfl) (by kernel_rfl) ?_
  repeat refine rq_ ?_
  refine WQ_call rfl rfl (by kernel_rfl) rfl (qless_ok (lt_k (by omega) (by omega) hl)) ?_
  repeat refine rq_ ?_
  refine sq_end ?_; refine go_ ?_; refine dr_ [] 18 ?_; refine y4_ 0 1 2 3 ?_; refine y4_ 4 5 6 7 ?_; refine y4_ 8 10 11 12 ?_; refine sd_batch (fun i => [9, 13].contains i) ?_; refine sx_yes 9 rfl gd_ (by kernel_rfl) (by kernel_rfl) nop_ (PuI.sep (by exact pv_)) rfl (fun _ h => h) ?_; refine sx_yes 13 rfl gd_ (by kernel_rfl) (by kernel_rfl) nop_ (PuI.sep (by exact pv_)) rfl (fun _ h => h) ?_; refine sx_rest (by kernel_rfl) ?_; refine sd_one 14 (by kernel_rfl) (sa_sl 14 rfl ?_)
  repeat refine su_ ?_
  refine sl_nil ?_; refine se_sd (fun _ _ _ => trivial) ?_; refine sd_one 15 (by kernel_rfl) (sa_sl 15 rfl ?_); refine sl_sto2 (i := j + 1) rfl (at1k (by omega)) pick_ rfl rfl rfl (by omega) ?_; refine sl_nil ?_; refine se_sd (fun _ _ _ => trivial) ?_; refine sd_one 16 (by kernel_rfl) (sa_sl 16 rfl ?_)
  repeat refine su_ ?_
  refine sl_nil ?_; refine se_sd (fun _ _ _ => trivial) ?_; refine sd_one 17 (by kernel_rfl) (sa_sl 17 rfl ?_); refine sl_swp (i := j + 1) (j := j) rfl (at1k (by omega)) pick_ rfl (get_k (by omega)) (get_k (by omega)) rfl (by omega) ?_; refine sl_nil ?_; refine se_sd (fun _ _ _ => trivial) ?_; refine sd_done (by kernel_rfl) ?_; refine go_ ?_; rw [show (((j + 1 : Nat) : Int) - 1) = (j : Int) by omega]; exact se_round (j, swp e' (j + 1) j) has_ sub_ ⟨swp_sz hes' _ _, by dsimp only; omega, heF'⟩ (by dsimp only; omega)
end
end
end Go.Proofs.YtocaabnbmcpjmaaGreat
