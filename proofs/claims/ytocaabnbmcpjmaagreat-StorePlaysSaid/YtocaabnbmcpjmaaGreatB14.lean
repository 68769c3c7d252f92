/- Several texts of one claim, one behind the other. -/
import Derived.Test.YtocaabnbmcpjmaaGreatB13
import Derived.Test.YtocaabnbmcpjmaaGreatB07
import Derived.Test.YtocaabnbmcpjmaaGreatB10
set_option linter.unusedVariables false
set_option linter.unusedSimpArgs false
set_option maxRecDepth 100000
set_option maxHeartbeats 16000000
namespace Go.Proofs.YtocaabnbmcpjmaaGreat
variable {φ ψ : Prop}
section
open Go.RowKit Go.MapKept
attribute [local irreducible] Go.Calls Go.Exit.then Go.Exit.inBlock Go.bodyPost Go.Code.wp Go.wpList takeL recordL hashL recL allL
section
def rcAcc (id : Id) (t : Int) (p s : List Int) : List Int := id.l ++ (le t 6 ++ ((le p.length 4 ++ p) ++ (le s.length 4 ++ s)))
def rcLife (n : Int) : List Int := le n 6
def rcRej (id : Id) (c : Int) : List Int := id.l ++ le c 1
def rcShut (s : Int) : List Int := le s 6
def rcCom (id : Id) (b d : List Int) : List Int := id.l ++ ((le b.length 4 ++ b) ++ (le d.length 4 ++ d))
open pSkn
theorem fLife_ok {K : List Fa} {b c g go gj gi gb mw ms : Nat} {A : Option Addr} {t : Ta} {life : Int} {ty : TypeId} (hg : At (blk go ty [.pointer (some ⟨g, 0, none⟩)]) K) (hs : At (sB g t gj gi gb mw ms life) K) (hl : 0 ≤ life ∧ life ≤ 18446744073709551615) :
  Fn Tryz.prog 46 ([Value.pointer (some ⟨b, 0, none⟩)] ++ [Value.pointer (some ⟨go, 0, none⟩)]).toArray (wrb b A [5].length c :: u8o A c [5] :: K) (Ret (fun _ : Option Addr × Nat => True) (fun _ => .tuple #[]) (fun p => wrb b p.1 (5 :: rcLife life).length p.2 :: u8o p.1 p.2 (5 :: rcLife life) :: K)) := by
 refine fe_ Tryz.func46 Tryz.ntmps46 [(0, .pointer (some ⟨b, 0, none⟩)), (1, .pointer (some ⟨go, 0, none⟩))] ?_; refine go_ ?_; refine slc_ rfl rfl sub_ (wUint (b := b) (A := A) (c := c) (bs := [5]) (n := life) (k := 6) (by decide) hl.1 hl.2 (by decide)) ?_; rintro ⟨A1, c1⟩ -; refine go_ ?_; exact se_end0 (A1, c1) trivial rfl rfl sub_
theorem fAcc_ok {K : List Fa} {b c g3 : Nat} {A : Option Addr} {id : Id} {tm : Int} {pA sA : Option Addr} {pc sc : Nat} {p s : List Int} {ty : TypeId} (hg : At (blk g3 ty (rpC id tm (.slice pA p.length pc) (.slice sA s.length sc))) K) (ht : 0 ≤ tm ∧ tm ≤ 18446744073709551615)
  (hp : Vw K (fun w => Reads w 1 pA p.length (bytes p))) (hs : Vw K (fun w => Reads w 1 sA s.length (bytes s))) (hpl : p.length ≤ 100000) (hsl : s.length ≤ 100000) :
  Fn Tryz.prog 52 ([Value.pointer (some ⟨b, 0, none⟩)] ++ [Value.pointer (some ⟨g3, 0, none⟩)]).toArray (wrb b A [1].length c :: u8o A c [1] :: K) (Ret (fun _ : Option Addr × Nat => True) (fun _ => .tuple #[]) (fun q => wrb b q.1 (1 :: rcAcc id tm p s).length q.2 :: u8o q.1 q.2 (1 :: rcAcc id tm p s) :: K)) := by
 have hil := id.len
 have h6 : (le tm 6).length = 6 := le_len _ _
 have h4 : (le (p.length : Int) 4).length = 4 := le_len _ _
 refine fe_ Tryz.func52 Tryz.ntmps52 [(0, .pointer (some ⟨b, 0, none⟩)), (1, .pointer (some ⟨g3, 0, none⟩))] ?_; refine go_ ?_
 have hid : Vw K (fun w => Reads w 1 (some ⟨g3, 0, none⟩) 16 (bytes id.l)) := by
  have := Vw.of_blk_mid hg rpC_id
  rwa [id.len] at this
 refine slc_ rfl rfl sub_ (wRaw (b := b) (A := A) (c := c) (bs := [1]) (xs := id.l) (m := 16) hid (by decide)) ?_; rintro ⟨A1, c1⟩ -; dsimp only; refine go_ ?_; refine slc_ rfl rfl sub_ (wUint (b := b) (A := A1) (c := c1) (bs := [1] ++ id.l) (n := tm) (k := 6) (by decide) ht.1 ht.2 (by simp; omega)) ?_; rintro ⟨A2, c2⟩ -; dsimp only; refine go_ ?_; refine slc_ rfl rfl sub_ (wLong (b := b) (A := A2) (c := c2) (bs := [1] ++ id.l ++ le tm 6) (xs := p) hp (by simp; omega)) ?_; rintro ⟨A3, c3⟩ -; dsimp only; refine go_ ?_; refine slc_ rfl rfl sub_ (wLong (b := b) (A := A3) (c := c3) (bs := [1] ++ id.l ++ le tm 6 ++ (le p.length 4 ++ p)) (xs := s) hs (by simp; omega)) ?_; rintro ⟨A4, c4⟩ -; dsimp only; refine go_ ?_; rw [show [1] ++ id.l ++ le tm 6 ++ (le p.length 4 ++ p) ++ (le s.length 4 ++ s) = 1 :: rcAcc id tm p s from by simp [rcAcc]]; exact se_end0 (A4, c4) trivial rfl rfl sub_
end
section
inductive Rc
 | acc (id : List Int) (t : Int) (p s : List Int)
 | com (id : List Int) (b d : List Int)
 | rej (id : List Int) (c : Int)
 | shut (s : Int)
 | life (n : Int)
def gLong (r : List Int) : Int ⊕ (List Int × List Int) :=
 if r.length < 4 then .inl 3 else if 65536 < leV (r.take 4) then .inl 4 else if r.length - 4 < (leV (r.take 4)).toNat then .inl 3
 else .inr ((r.drop 4).take (leV (r.take 4)).toNat, r.drop (4 + (leV (r.take 4)).toNat))
def dAcc4 (id : List Int) (t : Int) (p r : List Int) : Int ⊕ (Rc × Nat) := match gLong r with
 | .inl c => .inl c
 | .inr (s, r) => .inr (.acc id t p s, r.length)
def dAcc3 (id : List Int) (t : Int) (r : List Int) : Int ⊕ (Rc × Nat) := match gLong r with
 | .inl c => .inl c
 | .inr (p, r) => dAcc4 id t p r
def dAcc2 (id r : List Int) : Int ⊕ (Rc × Nat) := if r.length < 6 then .inl 3 else dAcc3 id (leV (r.take 6)) (r.drop 6)
def dAcc (r : List Int) : Int ⊕ (Rc × Nat) := if r.length < 16 then .inl 3 else dAcc2 (r.take 16) (r.drop 16)
def dCom3 (id b r : List Int) : Int ⊕ (Rc × Nat) := match gLong r with
 | .inl c => .inl c
 | .inr (d, r) => .inr (.com id b d, r.length)
def dCom2 (id r : List Int) : Int ⊕ (Rc × Nat) := match gLong r with
 | .inl c => .inl c
 | .inr (b, r) => dCom3 id b r
def dCom (r : List Int) : Int ⊕ (Rc × Nat) := if r.length < 16 then .inl 3 else dCom2 (r.take 16) (r.drop 16)
def dRej2 (id r : List Int) : Int ⊕ (Rc × Nat) := if r.length < 1 then .inl 3 else .inr (.rej id (leV (r.take 1)), (r.drop 1).length)
def dRej (r : List Int) : Int ⊕ (Rc × Nat) := if r.length < 16 then .inl 3 else dRej2 (r.take 16) (r.drop 16)
def dShut (r : List Int) : Int ⊕ (Rc × Nat) := if r.length < 6 then .inl 3 else .inr (.shut (leV (r.take 6)), (r.drop 6).length)
def dLife (r : List Int) : Int ⊕ (Rc × Nat) := if r.length < 6 then .inl 3 else .inr (.life (leV (r.take 6)), (r.drop 6).length)
def decR (bs : List Int) : Int ⊕ (Rc × Nat) :=
 if bs.length < 1 then .inl 3 else
 if leV (bs.take 1) = 1 then dAcc (bs.drop 1) else if leV (bs.take 1) = 2 then dCom (bs.drop 1) else if leV (bs.take 1) = 3 then dRej (bs.drop 1) else
 if leV (bs.take 1) = 4 then dShut (bs.drop 1) else if leV (bs.take 1) = 5 then dLife (bs.drop 1) else .inl 10
structure Ag where
 g1 : Nat
 g2 : Nat
 g3 : Nat
 A : Option Addr
 c : Nat
 B : Option Addr
 d : Nat
def doV (gs : Nat) (x : Ag) : Rc → Value
 | .acc .. => .func (.func 91) #[] #[.pointer (some ⟨gs, 0, none⟩), .pointer (some ⟨x.g1, 0, none⟩)]
 | .com .. => .func (.func 92) #[] #[.pointer (some ⟨gs, 0, none⟩), .pointer (some ⟨x.g1, 0, none⟩), .pointer (some ⟨x.g2, 0, none⟩), .pointer (some ⟨x.g3, 0, none⟩)]
 | .rej .. => .func (.func 93) #[] #[.pointer (some ⟨gs, 0, none⟩), .pointer (some ⟨x.g1, 0, none⟩), .pointer (some ⟨x.g2, 0, none⟩)]
 | .shut .. => .func (.func 94) #[] #[.pointer (some ⟨gs, 0, none⟩), .pointer (some ⟨x.g1, 0, none⟩)]
 | .life .. => .func (.func 95) #[] #[.pointer (some ⟨x.g1, 0, none⟩), .pointer (some ⟨gs, 0, none⟩)]
def doF (x : Ag) (K : List Fa) : Rc → List Fa
 | .acc id t p s => blk x.g1 49 (bytes id ++ [.int .u64 t, .slice x.A p.length x.c, .slice x.B s.length x.d]) :: u8o x.A x.c p :: u8o x.B x.d s :: K
 | .com id b d => blk x.g1 47 (bytes id) :: blk x.g2 27 [.slice x.A b.length x.c] :: blk x.g3 27 [.slice x.B d.length x.d] :: u8o x.A x.c b :: u8o x.B x.d d :: K
 | .rej id c => blk x.g1 47 (bytes id) :: blk x.g2 42 [.int .i64 c] :: K
 | .shut s => blk x.g1 36 [.int .u64 s] :: K
 | .life n => blk x.g1 36 [.int .u64 n] :: K
abbrev doB (g : Nat) (v : Value) : Fa := blk g 50 [v]
def agM (bs : List Int) (_ : Ag) : Nat := match decR bs with
 | .inl _ => 0
 | .inr (_, m) => m
def agX (bs : List Int) (_ : Ag) : Option Int := match decR bs with
 | .inl c => some c
 | .inr _ => none
def agH (gs gd : Nat) (v0 : Value) (K : List Fa) (bs : List Int) (x : Ag) : List Fa := match decR bs with
 | .inl _ => doB gd v0 :: K
 | .inr (r, _) => doB gd (doV gs x r) :: doF x K r
section
variable {P : Program} {Q : Exit → Act → World → Prop} {n : Nat} {l : Env} {L : List Fa} {fn : Func} {R : Ending → World → Prop} {c : List PanicEntry}
theorem se_end0R (hr : fn.results = #[]) (h : ∀ w, Sep w L → R (.returned (.tuple #[])) w) : SE (bodyPost P fn R) .normal n l L := by
 unfold SE
 intro w hw; exact we_end0 hr (h w hw)
theorem se_panicR (h : ∀ w, Sep w L → R (.panicked c) w) : SE (bodyPost P fn R) (.panic c) n l L := by
 unfold SE
 intro w hw; exact we_panic (h w hw)
end
section
variable {n : Nat} {l : Env} {L : List Fa} {fn : Func} {gs gd r : Nat} {v0 : Value} {K : List Fa} {bs : List Int} {F1 F2 : Fa} {c : Int} {s : Value} {rc : Rc} {m : Nat}
abbrev agR (gs gd : Nat) (v0 : Value) (K : List Fa) (bs : List Int) (r : Nat) (F1 F2 : Fa) : Ending → World → Prop := RdEnd (fun _ : Ag => True) (agM bs) (agX bs) (agH gs gd v0 K bs) r F1 F2
theorem ag_die (hd : decR bs = .inl c) (hs : Sub L (blk r 201 [s, .bool true] :: F1 :: F2 :: doB gd v0 :: K)) : SE (bodyPost Tryz.prog fn (agR gs gd v0 K bs r F1 F2)) (.panic (stopC c)) n l L := se_panicR fun w hw => by
 refine ⟨⟨0, 0, 0, none, 0, none, 0⟩, trivial, ?_⟩
 have h1 : agX bs ⟨0, 0, 0, none, 0, none, 0⟩ = some c := by unfold agX; rw [hd]
 rw [h1]
 refine ⟨rfl, s, ?_⟩
 unfold agH
 rw [hd]; exact hw.sub hs
theorem ag_end (x : Ag) (hd : decR bs = .inr (rc, m)) (hr : fn.results = #[]) {A : Option Addr} {cc : Nat} (hs : Sub L (rdb r A m cc :: F1 :: F2 :: doB gd (doV gs x rc) :: doF x K rc)) : SE (bodyPost Tryz.prog fn (agR gs gd v0 K bs r F1 F2)) .normal n l L := se_end0R hr fun w hw => by
 refine ⟨x, trivial, ?_⟩
 have h1 : agX bs x = none := by unfold agX; rw [hd]
 have h2 : agM bs x = m := by unfold agM; rw [hd]
 rw [h1]
 refine ⟨rfl, A, cc, ?_⟩
 rw [h2]
 unfold agH
 rw [hd]; exact hw.sub hs
end
theorem build_rep (id : Id) (W : World) : (Instr.build 49 #[(0, id.v)]).run Tryz.prog W = .ok (.agg (rpC id 0 (.slice none 0 0) (.slice none 0 0)).toArray) W := by
 obtain ⟨a0, a1, a2, a3, a4, a5, a6, a7, a8, a9, a10, a11, a12, a13, a14, a15, h⟩ := list16m id.len
 show (Instr.build 49 #[(0, .agg (bytes id.l).toArray)]).run Tryz.prog W = .ok (.agg (bytes id.l ++ [Value.int .u64 0, .slice none 0 0, .slice none 0 0]).toArray) W
 rw [h]
 kernel_rfl
theorem rpC_set16 {id : Id} {t v : Int} {P S : Value} : SetAt 16 (.int .u64 v) (rpC id t P S) (rpC id v P S) := SetAt.tail (k := 16) (a := bytes id.l) (i := 0) (by rw [bytes_length, id.len]) SetAt.here
theorem rpC_set17 {id : Id} {t : Int} {P S v : Value} : SetAt 17 v (rpC id t P S) (rpC id t v S) := SetAt.tail (k := 16) (a := bytes id.l) (i := 1) (by rw [bytes_length, id.len]) (SetAt.there SetAt.here)
theorem rpC_set18 {id : Id} {t : Int} {P S v : Value} : SetAt 18 v (rpC id t P S) (rpC id t P v) := SetAt.tail (k := 16) (a := bytes id.l) (i := 2) (by rw [bytes_length, id.len]) (SetAt.there (SetAt.there SetAt.here))
theorem lev1 {xs : List Int} {k : Nat} (h : IsBytes xs) (hl : xs.length = k) (hk : k ≤ 8) : 0 ≤ leV xs ∧ leV xs ≤ 18446744073709551615 := by
 obtain ⟨h1, h2⟩ := leV_lt h
 have h3 := Int.ofNat_le.2 (Nat.pow_le_pow_right (n := 2) (by decide) (show 8 * xs.length ≤ 64 by omega))
 rw [Int.natCast_pow, Int.natCast_pow] at h3
 have h4 : ((2 : Nat) : Int) ^ 64 = 18446744073709551616 := by decide
 have h5 : ((2 : Nat) : Int) = 2 := rfl
 rw [h4, h5] at h3
 omega
namespace pSka
theorem nthx_ (h : φ := by first | rfl | exact rpC_n16 | exact rpC_n17 | exact rpC_n18) : φ := h
theorem midx_ (h : φ := by first | exact rpC_id | exact Mid.all) : φ := h
theorem szx_ (h : φ := by ((try simp only [rpC_len, bytes_length, Id.len]); (first | done | rfl); first | done | fail)) : φ := h
theorem onex_ (h : φ := by first | exact one_bytes _ | exact rpC_one rfl rfl) : φ := h
theorem setx_ (h : φ := by first | exact rpC_set16 | exact rpC_set17 | exact rpC_set18) : φ := h
end pSka
open pSka
theorem e1_Ska (h : φ := by (rintro _ -; refine go_ ?_; exact ag_die hdx sub_)) : φ := h
theorem agf_ok {K Z : List Fa} {r gs gd n c : Nat} {A : Option Addr} {bs : List Int} {v0 : Value} {F1 F2 : Fa} (hz : Sub K Z) (h : Rd Z A n c bs) :
  Fn Tryz.prog 87 (#[.pointer (some ⟨r, 0, none⟩)] ++ #[.pointer (some ⟨gs, 0, none⟩), .pointer (some ⟨gd, 0, none⟩)]) (rdb r A n c :: F1 :: F2 :: doB gd v0 :: K) (agR gs gd v0 K bs r F1 F2) := by
 have hz3 : Sub (F1 :: F2 :: doB gd v0 :: K) Z := Sub.skip (Sub.skip (Sub.skip hz))
 have hbl := h.len
 refine fe_ Tryz.func87 Tryz.ntmps87 [(0, .pointer (some ⟨r, 0, none⟩)), (1, .pointer (some ⟨gs, 0, none⟩)), (2, .pointer (some ⟨gd, 0, none⟩))] ?_; refine go_ ?_
 by_cases e0 : n < 1
 ·have hd : decR bs = .inl 3 := by unfold decR; rw [if_pos (by omega)]
  refine sl_die rfl rfl (by kernel_rfl) sub_ (rUint_die (k := 1) (by decide) e0) ?_; rintro _ -; refine go_ ?_; exact ag_die hd sub_
 refine slc_ rfl rfl Sub.refl (rUint (k := 1) hz3 h (by decide) (by omega)) ?_; rintro q1 h1
 have hd0 : decR bs = if leV (bs.take 1) = 1 then dAcc (bs.drop 1) else if leV (bs.take 1) = 2 then dCom (bs.drop 1) else if leV (bs.take 1) = 3 then dRej (bs.drop 1) else
   if leV (bs.take 1) = 4 then dShut (bs.drop 1) else if leV (bs.take 1) = 5 then dLife (bs.drop 1) else .inl 10 := by unfold decR; rw [if_neg (by omega)]
 generalize leV (bs.take 1) = kk at hd0 ⊢
 generalize bs.drop 1 = r1 at hd0 h1
 have l1 := h1.len
 obtain ⟨rq1, hrq⟩ : ∃ x, x = r1 := ⟨_, rfl⟩
 rw [← hrq] at h1 hd0
 clear hrq l1
 by_cases k1 : kk = 1
 ·subst k1
  rw [if_pos rfl] at hd0
  refine go_ ?_
  have lq1 := h1.len
  by_cases eq1 : q1.n < 16
  ·have hdx : decR bs = .inl 3 := by rw [hd0]; unfold dAcc; rw [if_pos (by omega)]
   refine sl_die rfl rfl (by kernel_rfl) sub_ (rId_die eq1) ?_; exact e1_Ska
  refine slc_ rfl rfl sub_ (rId (by repeat (first | exact hz3 | exact hz | apply Sub.skip)) h1 (by omega) ⟨rq1.take 16, by rw [List.length_take]; omega, h1.okb.take 16⟩ rfl) ?_
  rintro q2 h2
  have hd1 : decR bs = dAcc2 (rq1.take 16) (rq1.drop 16) := by rw [hd0]; unfold dAcc; rw [if_neg (by omega)]
  obtain ⟨id, hid⟩ : ∃ id : Id, id = ⟨rq1.take 16, by rw [List.length_take]; omega, h1.okb.take 16⟩ := ⟨_, rfl⟩
  rw [← hid]
  have hid2 : rq1.take 16 = id.l := by rw [hid]
  rw [hid2] at hd1
  generalize rq1.drop 16 = rq2 at hd1 h2
  refine sl_pu (pu_build (v := .agg (rpC id 0 (.slice none 0 0) (.slice none 0 0)).toArray) rfl (build_rep id)) rfl ?_; refine al_ ?_; intro g4; refine sl_store_whole (cl := rpC id 0 (.slice none 0 0) (.slice none 0 0)) rfl pick_ rfl (by rw [rpC_len]; rfl) (by rw [rpC_len]; rfl) (rpC_one rfl rfl) ?_; refine go_ ?_
  have lq2 := h2.len
  by_cases eq2 : q2.n < 6
  ·have hdx : decR bs = .inl 3 := by rw [hd1]; unfold dAcc2; rw [if_pos (by omega)]
   refine sl_die rfl rfl (by kernel_rfl) sub_ (rUint_die (k := 6) (by decide) eq2) ?_; exact e1_Ska
  refine slc_ rfl rfl sub_ (rUint (k := 6) (by repeat (first | exact hz3 | exact hz | apply Sub.skip)) h2 (by decide) (by omega)) ?_
  rintro q3 h3
  have hd2 : decR bs = dAcc3 id.l (leV (rq2.take 6)) (rq2.drop 6) := by rw [hd1]; unfold dAcc2; rw [if_neg (by omega)]
  have hvq2 := lev1 (h2.okb.take 6) (k := 6) (by rw [List.length_take]; omega) (by decide)
  generalize leV (rq2.take 6) = tm at hd2 hvq2 ⊢
  generalize rq2.drop 6 = rq3 at hd2 h3
  refine go_ ?_
  have lq3 := h3.len
  by_cases eq3 : q3.n < 4
  ·have hdx : decR bs = .inl 3 := by rw [hd2]; unfold dAcc3 gLong; rw [if_pos (by omega)]
   refine sl_die rfl rfl (by kernel_rfl) sub_ (rLong_die (m := 65536) eq3) ?_; exact e1_Ska
  obtain ⟨kq3, hkq3⟩ : ∃ k : Nat, leV (rq3.take 4) = k := ⟨(leV (rq3.take 4)).toNat, by have := (leV_lt (h3.okb.take 4)).1; omega⟩
  by_cases fq3 : 65536 < kq3
  ·have hdx : decR bs = .inl 4 := by rw [hd2]; unfold dAcc3 gLong; rw [if_neg (by omega), hkq3, if_pos (by omega)]
   refine sl_die rfl rfl (by kernel_rfl) sub_ (rLong_die4 (m := 65536) (by repeat (first | exact hz3 | exact hz | apply Sub.skip)) h3 (by omega) hkq3 fq3 (by decide)) ?_
   exact e1_Ska
  by_cases iq3 : q3.n - 4 < kq3
  ·have hdx : decR bs = .inl 3 := by rw [hd2]; unfold dAcc3 gLong; rw [if_neg (by omega), hkq3, if_neg (by omega), if_pos (by rw [Int.toNat_natCast]; omega)]
   refine sl_die rfl rfl (by kernel_rfl) sub_ (rLong_die3 (m := 65536) (by repeat (first | exact hz3 | exact hz | apply Sub.skip)) h3 (by omega) hkq3 (by omega) iq3 (by decide)) ?_
   exact e1_Ska
  refine slc_ rfl rfl sub_ (rLong (m := 65536) (by repeat (first | exact hz3 | exact hz | apply Sub.skip)) h3 (by omega) hkq3 (by omega) (by omega) (by decide)) ?_
  rintro ⟨⟨A1, c1⟩, q4⟩ h4
  dsimp only at h4 ⊢
  have hd3 : decR bs = dAcc4 id.l tm ((rq3.drop 4).take kq3) (rq3.drop (4 + kq3)) := by rw [hd2]; unfold dAcc3 gLong; rw [if_neg (by omega), hkq3, if_neg (by omega), if_neg (by rw [Int.toNat_natCast]; omega)]; dsimp only; rw [Int.toNat_natCast]
  generalize rq3.drop (4 + kq3) = rq4 at hd3 h4
  generalize hps : (rq3.drop 4).take kq3 = ps at hd3 ⊢
  have psl : ps.length = kq3 := by rw [← hps, List.length_take, List.length_drop]; omega
  clear hps
  subst psl; refine go_ ?_
  have lq4 := h4.len
  by_cases eq4 : q4.n < 4
  ·have hdx : decR bs = .inl 3 := by rw [hd3]; unfold dAcc4 gLong; rw [if_pos (by omega)]
   refine sl_die rfl rfl (by kernel_rfl) sub_ (rLong_die (m := 65536) eq4) ?_; exact e1_Ska
  obtain ⟨kq4, hkq4⟩ : ∃ k : Nat, leV (rq4.take 4) = k := ⟨(leV (rq4.take 4)).toNat, by have := (leV_lt (h4.okb.take 4)).1; omega⟩
  by_cases fq4 : 65536 < kq4
  ·have hdx : decR bs = .inl 4 := by rw [hd3]; unfold dAcc4 gLong; rw [if_neg (by omega), hkq4, if_pos (by omega)]
   refine sl_die rfl rfl (by kernel_rfl) sub_ (rLong_die4 (m := 65536) (by repeat (first | exact hz3 | exact hz | apply Sub.skip)) h4 (by omega) hkq4 fq4 (by decide)) ?_
   exact e1_Ska
  by_cases iq4 : q4.n - 4 < kq4
  ·have hdx : decR bs = .inl 3 := by rw [hd3]; unfold dAcc4 gLong; rw [if_neg (by omega), hkq4, if_neg (by omega), if_pos (by rw [Int.toNat_natCast]; omega)]
   refine sl_die rfl rfl (by kernel_rfl) sub_ (rLong_die3 (m := 65536) (by repeat (first | exact hz3 | exact hz | apply Sub.skip)) h4 (by omega) hkq4 (by omega) iq4 (by decide)) ?_
   exact e1_Ska
  refine slc_ rfl rfl sub_ (rLong (m := 65536) (by repeat (first | exact hz3 | exact hz | apply Sub.skip)) h4 (by omega) hkq4 (by omega) (by omega) (by decide)) ?_
  rintro ⟨⟨A2, c2⟩, q5⟩ h5
  dsimp only at h5 ⊢
  have hd4 : decR bs = .inr (.acc id.l tm ps ((rq4.drop 4).take kq4), (rq4.drop (4 + kq4)).length) := by rw [hd3]; unfold dAcc4 gLong; rw [if_neg (by omega), hkq4, if_neg (by omega), if_neg (by rw [Int.toNat_natCast]; omega)]; dsimp only; rw [Int.toNat_natCast]
  generalize rq4.drop (4 + kq4) = rq5 at hd4 h5
  generalize hss : (rq4.drop 4).take kq4 = ss at hd4 ⊢
  have ssl : ss.length = kq4 := by rw [← hss, List.length_take, List.length_drop]; omega
  clear hss
  subst ssl; refine go_ ?_
  have l5 := h5.len
  rw [l5] at hd4
  exact ag_end ⟨g4, 0, 0, A1, c1, A2, c2⟩ hd4 rfl (A := q5.A) (cc := q5.c) sub_
 rw [if_neg k1] at hd0
 by_cases k2 : kk = 2
 ·subst k2
  rw [if_pos rfl] at hd0
  refine go_ ?_
  have lq1 := h1.len
  by_cases eq1 : q1.n < 16
  ·have hdx : decR bs = .inl 3 := by rw [hd0]; unfold dCom; rw [if_pos (by omega)]
   refine sl_die rfl rfl (by kernel_rfl) sub_ (rId_die eq1) ?_; exact e1_Ska
  refine slc_ rfl rfl sub_ (rId (by repeat (first | exact hz3 | exact hz | apply Sub.skip)) h1 (by omega) ⟨rq1.take 16, by rw [List.length_take]; omega, h1.okb.take 16⟩ rfl) ?_
  rintro q2 h2
  have hd1 : decR bs = dCom2 (rq1.take 16) (rq1.drop 16) := by rw [hd0]; unfold dCom; rw [if_neg (by omega)]
  obtain ⟨id, hid⟩ : ∃ id : Id, id = ⟨rq1.take 16, by rw [List.length_take]; omega, h1.okb.take 16⟩ := ⟨_, rfl⟩
  rw [← hid]
  have hid2 : rq1.take 16 = id.l := by rw [hid]
  rw [hid2] at hd1
  generalize rq1.drop 16 = rq2 at hd1 h2
  refine go_ ?_; refine al_ ?_; intro g5; refine sl_store_whole (cl := bytes id.l) rfl pick_ rfl (by rw [bytes_length, id.len]; rfl) (by rw [bytes_length, id.len]; rfl) (one_bytes _) ?_; refine go_ ?_
  have lq2 := h2.len
  by_cases eq2 : q2.n < 4
  ·have hdx : decR bs = .inl 3 := by rw [hd1]; unfold dCom2 gLong; rw [if_pos (by omega)]
   refine sl_die rfl rfl (by kernel_rfl) sub_ (rLong_die (m := 65536) eq2) ?_; exact e1_Ska
  obtain ⟨kq2, hkq2⟩ : ∃ k : Nat, leV (rq2.take 4) = k := ⟨(leV (rq2.take 4)).toNat, by have := (leV_lt (h2.okb.take 4)).1; omega⟩
  by_cases fq2 : 65536 < kq2
  ·have hdx : decR bs = .inl 4 := by rw [hd1]; unfold dCom2 gLong; rw [if_neg (by omega), hkq2, if_pos (by omega)]
   refine sl_die rfl rfl (by kernel_rfl) sub_ (rLong_die4 (m := 65536) (by repeat (first | exact hz3 | exact hz | apply Sub.skip)) h2 (by omega) hkq2 fq2 (by decide)) ?_
   exact e1_Ska
  by_cases iq2 : q2.n - 4 < kq2
  ·have hdx : decR bs = .inl 3 := by rw [hd1]; unfold dCom2 gLong; rw [if_neg (by omega), hkq2, if_neg (by omega), if_pos (by rw [Int.toNat_natCast]; omega)]
   refine sl_die rfl rfl (by kernel_rfl) sub_ (rLong_die3 (m := 65536) (by repeat (first | exact hz3 | exact hz | apply Sub.skip)) h2 (by omega) hkq2 (by omega) iq2 (by decide)) ?_
   exact e1_Ska
  refine slc_ rfl rfl sub_ (rLong (m := 65536) (by repeat (first | exact hz3 | exact hz | apply Sub.skip)) h2 (by omega) hkq2 (by omega) (by omega) (by decide)) ?_
  rintro ⟨⟨A1, c1⟩, q3⟩ h3
  dsimp only at h3 ⊢
  have hd2 : decR bs = dCom3 id.l ((rq2.drop 4).take kq2) (rq2.drop (4 + kq2)) := by rw [hd1]; unfold dCom2 gLong; rw [if_neg (by omega), hkq2, if_neg (by omega), if_neg (by rw [Int.toNat_natCast]; omega)]; dsimp only; rw [Int.toNat_natCast]
  generalize rq2.drop (4 + kq2) = rq3 at hd2 h3
  generalize hps : (rq2.drop 4).take kq2 = ps at hd2 ⊢
  have psl : ps.length = kq2 := by rw [← hps, List.length_take, List.length_drop]; omega
  clear hps
  subst psl; refine go_ ?_; refine al_ ?_; intro g6; refine go_ ?_
  have lq3 := h3.len
  by_cases eq3 : q3.n < 4
  ·have hdx : decR bs = .inl 3 := by rw [hd2]; unfold dCom3 gLong; rw [if_pos (by omega)]
   refine sl_die rfl rfl (by kernel_rfl) sub_ (rLong_die (m := 65536) eq3) ?_; exact e1_Ska
  obtain ⟨kq3, hkq3⟩ : ∃ k : Nat, leV (rq3.take 4) = k := ⟨(leV (rq3.take 4)).toNat, by have := (leV_lt (h3.okb.take 4)).1; omega⟩
  by_cases fq3 : 65536 < kq3
  ·have hdx : decR bs = .inl 4 := by rw [hd2]; unfold dCom3 gLong; rw [if_neg (by omega), hkq3, if_pos (by omega)]
   refine sl_die rfl rfl (by kernel_rfl) sub_ (rLong_die4 (m := 65536) (by repeat (first | exact hz3 | exact hz | apply Sub.skip)) h3 (by omega) hkq3 fq3 (by decide)) ?_
   exact e1_Ska
  by_cases iq3 : q3.n - 4 < kq3
  ·have hdx : decR bs = .inl 3 := by rw [hd2]; unfold dCom3 gLong; rw [if_neg (by omega), hkq3, if_neg (by omega), if_pos (by rw [Int.toNat_natCast]; omega)]
   refine sl_die rfl rfl (by kernel_rfl) sub_ (rLong_die3 (m := 65536) (by repeat (first | exact hz3 | exact hz | apply Sub.skip)) h3 (by omega) hkq3 (by omega) iq3 (by decide)) ?_
   exact e1_Ska
  refine slc_ rfl rfl sub_ (rLong (m := 65536) (by repeat (first | exact hz3 | exact hz | apply Sub.skip)) h3 (by omega) hkq3 (by omega) (by omega) (by decide)) ?_
  rintro ⟨⟨A2, c2⟩, q4⟩ h4
  dsimp only at h4 ⊢
  have hd3 : decR bs = .inr (.com id.l ps ((rq3.drop 4).take kq3), (rq3.drop (4 + kq3)).length) := by rw [hd2]; unfold dCom3 gLong; rw [if_neg (by omega), hkq3, if_neg (by omega), if_neg (by rw [Int.toNat_natCast]; omega)]; dsimp only; rw [Int.toNat_natCast]
  generalize rq3.drop (4 + kq3) = rq4 at hd3 h4
  generalize hss : (rq3.drop 4).take kq3 = ss at hd3 ⊢
  have ssl : ss.length = kq3 := by rw [← hss, List.length_take, List.length_drop]; omega
  clear hss
  subst ssl; refine go_ ?_; refine al_ ?_; intro g7; refine go_ ?_
  have l4 := h4.len
  rw [l4] at hd3
  exact ag_end ⟨g5, g6, g7, A1, c1, A2, c2⟩ hd3 rfl (A := q4.A) (cc := q4.c) sub_
 rw [if_neg k2] at hd0
 by_cases k3 : kk = 3
 ·subst k3
  rw [if_pos rfl] at hd0
  refine go_ ?_
  have lq1 := h1.len
  by_cases eq1 : q1.n < 16
  ·have hdx : decR bs = .inl 3 := by rw [hd0]; unfold dRej; rw [if_pos (by omega)]
   refine sl_die rfl rfl (by kernel_rfl) sub_ (rId_die eq1) ?_; exact e1_Ska
  refine slc_ rfl rfl sub_ (rId (by repeat (first | exact hz3 | exact hz | apply Sub.skip)) h1 (by omega) ⟨rq1.take 16, by rw [List.length_take]; omega, h1.okb.take 16⟩ rfl) ?_
  rintro q2 h2
  have hd1 : decR bs = dRej2 (rq1.take 16) (rq1.drop 16) := by rw [hd0]; unfold dRej; rw [if_neg (by omega)]
  obtain ⟨id, hid⟩ : ∃ id : Id, id = ⟨rq1.take 16, by rw [List.length_take]; omega, h1.okb.take 16⟩ := ⟨_, rfl⟩
  rw [← hid]
  have hid2 : rq1.take 16 = id.l := by rw [hid]
  rw [hid2] at hd1
  generalize rq1.drop 16 = rq2 at hd1 h2
  refine go_ ?_; refine al_ ?_; intro g8; refine sl_store_whole (cl := bytes id.l) rfl pick_ rfl (by rw [bytes_length, id.len]; rfl) (by rw [bytes_length, id.len]; rfl) (one_bytes _) ?_; refine go_ ?_
  have h256 : q2.n < 1 ∨ leV (rq2.take 1) < 256 := by
   by_cases hq2 : q2.n < 1
   ·exact .inl hq2
   ·have h8 := (leV_lt (h2.okb.take 1)).2
    have l2 := h2.len
    have l3 : (rq2.take 1).length = 1 := by rw [List.length_take]; omega
    rw [l3] at h8
    exact .inr h8
  have lq2 := h2.len
  by_cases eq2 : q2.n < 1
  ·have hdx : decR bs = .inl 3 := by rw [hd1]; unfold dRej2; rw [if_pos (by omega)]
   refine sl_die rfl rfl (by kernel_rfl) sub_ (rUint_die (k := 1) (by decide) eq2) ?_; exact e1_Ska
  refine slc_ rfl rfl sub_ (rUint (k := 1) (by repeat (first | exact hz3 | exact hz | apply Sub.skip)) h2 (by decide) (by omega)) ?_
  rintro q3 h3
  have hd2 : decR bs = .inr (.rej id.l (leV (rq2.take 1)), (rq2.drop 1).length) := by rw [hd1]; unfold dRej2; rw [if_neg (by omega)]
  have hvq2 := lev1 (h2.okb.take 1) (k := 1) (by rw [List.length_take]; omega) (by decide)
  generalize leV (rq2.take 1) = cc at hd2 hvq2 h256 ⊢
  generalize rq2.drop 1 = rq3 at hd2 h3
  refine go_ ?_; refine al_ ?_; intro g9; refine go_ ?_
  have l3 := h3.len
  rw [l3] at hd2
  exact ag_end ⟨g8, g9, 0, none, 0, none, 0⟩ hd2 rfl (A := q3.A) (cc := q3.c) sub_
 rw [if_neg k3] at hd0
 by_cases k4 : kk = 4
 ·subst k4
  rw [if_pos rfl] at hd0
  refine go_ ?_
  have lq1 := h1.len
  by_cases eq1 : q1.n < 6
  ·have hdx : decR bs = .inl 3 := by rw [hd0]; unfold dShut; rw [if_pos (by omega)]
   refine sl_die rfl rfl (by kernel_rfl) sub_ (rUint_die (k := 6) (by decide) eq1) ?_; exact e1_Ska
  refine slc_ rfl rfl sub_ (rUint (k := 6) (by repeat (first | exact hz3 | exact hz | apply Sub.skip)) h1 (by decide) (by omega)) ?_
  rintro q2 h2
  have hd1 : decR bs = .inr (.shut (leV (rq1.take 6)), (rq1.drop 6).length) := by rw [hd0]; unfold dShut; rw [if_neg (by omega)]
  have hvq1 := lev1 (h1.okb.take 6) (k := 6) (by rw [List.length_take]; omega) (by decide)
  generalize leV (rq1.take 6) = vv at hd1 hvq1 ⊢
  generalize rq1.drop 6 = rq2 at hd1 h2
  refine go_ ?_; refine al_ ?_; intro g9; refine go_ ?_
  have l2 := h2.len
  rw [l2] at hd1
  exact ag_end ⟨g9, 0, 0, none, 0, none, 0⟩ hd1 rfl (A := q2.A) (cc := q2.c) sub_
 rw [if_neg k4] at hd0
 by_cases k5 : kk = 5
 ·subst k5
  rw [if_pos rfl] at hd0
  refine go_ ?_
  have lq1 := h1.len
  by_cases eq1 : q1.n < 6
  ·have hdx : decR bs = .inl 3 := by rw [hd0]; unfold dLife; rw [if_pos (by omega)]
   refine sl_die rfl rfl (by kernel_rfl) sub_ (rUint_die (k := 6) (by decide) eq1) ?_; exact e1_Ska
  refine slc_ rfl rfl sub_ (rUint (k := 6) (by repeat (first | exact hz3 | exact hz | apply Sub.skip)) h1 (by decide) (by omega)) ?_
  rintro q2 h2
  have hd1 : decR bs = .inr (.life (leV (rq1.take 6)), (rq1.drop 6).length) := by rw [hd0]; unfold dLife; rw [if_neg (by omega)]
  have hvq1 := lev1 (h1.okb.take 6) (k := 6) (by rw [List.length_take]; omega) (by decide)
  generalize leV (rq1.take 6) = vv at hd1 hvq1 ⊢
  generalize rq1.drop 6 = rq2 at hd1 h2
  refine go_ ?_; refine al_ ?_; intro g9; refine go_ ?_
  have l2 := h2.len
  rw [l2] at hd1
  exact ag_end ⟨g9, 0, 0, none, 0, none, 0⟩ hd1 rfl (A := q2.A) (cc := q2.c) sub_
 rw [if_neg k5] at hd0
 refine go_ ?_; refine sl_die rfl rfl (by kernel_rfl) sub_ (rFail (c := 10) (by decide)) ?_; rintro _ -; refine go_ ?_; exact ag_die hd0 sub_
end
attribute [local irreducible] decR
def doId : Rc → Nat
 | .acc .. => 91
 | .com .. => 92
 | .rej .. => 93
 | .shut .. => 94
 | .life .. => 95
def doCaps (gs : Nat) (x : Ag) : Rc → List Value
 | .acc .. => [.pointer (some ⟨gs, 0, none⟩), .pointer (some ⟨x.g1, 0, none⟩)]
 | .com .. => [.pointer (some ⟨gs, 0, none⟩), .pointer (some ⟨x.g1, 0, none⟩), .pointer (some ⟨x.g2, 0, none⟩), .pointer (some ⟨x.g3, 0, none⟩)]
 | .rej .. => [.pointer (some ⟨gs, 0, none⟩), .pointer (some ⟨x.g1, 0, none⟩), .pointer (some ⟨x.g2, 0, none⟩)]
 | .shut .. => [.pointer (some ⟨gs, 0, none⟩), .pointer (some ⟨x.g1, 0, none⟩)]
 | .life .. => [.pointer (some ⟨x.g1, 0, none⟩), .pointer (some ⟨gs, 0, none⟩)]
theorem doV_eq (gs : Nat) (x : Ag) (r : Rc) : doV gs x r = .func (.func (doId r)) #[] (doCaps gs x r).toArray := by cases r <;> rfl
theorem doId_call (r : Rc) : callable Tryz.prog (doId r) = true := by
 cases r
 ·show callable Tryz.prog 91 = true
  kernel_rfl
 ·show callable Tryz.prog 92 = true
  kernel_rfl
 ·show callable Tryz.prog 93 = true
  kernel_rfl
 ·show callable Tryz.prog 94 = true
  kernel_rfl
 ·show callable Tryz.prog 95 = true
  kernel_rfl
theorem again1_call : ∀ args w, (callFunc 87 args).run Tryz.prog w = .ok (.enter 87 args) w := fun args w => by kernel_rfl
abbrev goB (go g : Nat) : Fa := blk go 41 [.pointer (some ⟨g, 0, none⟩)]
theorem aread_ok {K Z : List Fa} {gs gd n c : Nat} {A : Option Addr} {bs : List Int} {v0 : Value} (hz : Sub K Z) (h : Rd Z A n c bs) :
  Fn Tryz.prog 86 #[.slice A n c, .func (.func 87) #[] #[.pointer (some ⟨gs, 0, none⟩), .pointer (some ⟨gd, 0, none⟩)]] (doB gd v0 :: K)
   (Ret (fun _ : Ag => True) (fun x => .int .i64 (rdCode (agM bs x) (agX bs x))) (agH gs gd v0 K bs)) :=
 read_fn again1_call (fun r F1 F2 => (agf_ok (F1 := F1) (F2 := F2) (v0 := v0) hz h))
theorem again_do {K Z : List Fa} {g n c : Nat} {A : Option Addr} {bs : List Int} {r : Rc} {α : Type} {φ : α → Prop} {vv : α → Value} {H : α → List Fa} (hz : Sub K Z) (h : Rd Z A n c bs) (hd : decR bs = .inr (r, 0))
  (hdo : ∀ (go : Nat) (x : Ag), Fn Tryz.prog (doId r) (doCaps go x r).toArray (doF x (goB go g :: K) r) (Ret φ vv H)) :
  Fn Tryz.prog 44 #[.pointer (some ⟨g, 0, none⟩), .slice A n c] K (Ret φ vv H) := by
 refine fe_ Tryz.func44 Tryz.ntmps44 [(0, .pointer (some ⟨g, 0, none⟩)), (1, .slice A n c)] ?_; refine go_ ?_; refine bx_ ?_; intro go; refine go_ ?_; refine al_ ?_; intro gd; refine go_ ?_; refine slc_ rfl rfl Sub.refl (aread_ok (K := goB go g :: K) (gs := go) (gd := gd) (v0 := .nilFunc) (Sub.skip hz) h) ?_; rintro x -
 have hx : agX bs x = none := by unfold agX; rw [hd]
 have hm2 : agM bs x = 0 := by unfold agM; rw [hd]
 have hH : agH go gd .nilFunc (goB go g :: K) bs x = doB gd (doV go x r) :: doF x (goB go g :: K) r := by unfold agH; rw [hd]
 rw [hx, hm2, hH, doV_eq]
 dsimp only [rdCode]
 rw [if_pos rfl]; refine go_ ?_; refine sl_call rfl rfl (doId_call r) rfl (Sub.skip Sub.refl) (hdo go x) ?_; rintro y hy; refine go_ ?_; exact se_ret1 y hy rfl rfl Sub.refl
end
section
open Go.RowKit Go.MapKept
attribute [local irreducible] Go.Calls Go.Exit.then Go.Exit.inBlock Go.bodyPost Go.Code.wp Go.wpList hashL ofId
section
structure Rl where
 w : Int
 mn : Int
 mx : Int
def Rl.c (r : Rl) : List Value := [.int .u64 r.w, .int .i64 r.mn, .int .i64 r.mx]
theorem Rl.one (r : Rl) : ∀ v ∈ r.c, v.oneCell' = true := by
 intro v hv
 simp only [Rl.c, List.mem_cons, List.not_mem_nil, or_false] at hv
 rcases hv with rfl | rfl | rfl <;> rfl
def stN (w now : Int) : Int := if w = 0 then now else now / w * w
theorem stN_le {w now : Int} (hw : 0 ≤ w) (h : 0 ≤ now) : 0 ≤ stN w now ∧ stN w now ≤ now := by
 unfold stN
 split
 ·omega
 ·rename_i h0
  exact ⟨Int.mul_nonneg (Int.ediv_nonneg h hw) hw, Int.ediv_mul_le _ h0⟩
def rErr (r : Rl) (t : Ta) : Int := if t.err ≠ 0 then t.err else if r.w < 1 ∨ 1099511627776 < r.w then 6 else if r.mn < 1 ∨ r.mx < r.mn ∨ 256 < r.mx then 6 else 0
structure BK where
 st : Int
 A : Option Addr
 c : Nat
 l : List Int
 m : Int
 k : Id
 cl : Bool
 bn : Nat
def bkC (st : Int) (T : List Value) (cl : Bool) : List Value := [.int .u64 st] ++ T ++ [.bool cl]
def BK.T (b : BK) : List Value := tc b.A b.l.length b.c b.m b.k
def BK.cells (b : BK) : List Value := bkC b.st b.T b.cl
theorem bkC_len {st : Int} {T : List Value} {cl : Bool} (h : T.length = 18) : (bkC st T cl).length = 20 := by simp [bkC, h]
theorem BK.len (b : BK) : b.cells.length = 20 := bkC_len tc_len
theorem bkC_one {st : Int} {T : List Value} {cl : Bool} (h : ∀ v ∈ T, v.oneCell' = true) : ∀ v ∈ bkC st T cl, v.oneCell' = true := by
 intro v hv
 simp only [bkC, List.cons_append, List.nil_append, List.mem_cons, List.mem_append, List.not_mem_nil, or_false] at hv
 rcases hv with rfl | hv | rfl
 ·rfl
 ·exact h v hv
 ·rfl
theorem BK.one (b : BK) : ∀ v ∈ b.cells, v.oneCell' = true := bkC_one tc_one
theorem bkC_mid {st : Int} {T : List Value} {cl : Bool} : Mid (bkC st T cl) 1 T := Mid.of_append (a := [Value.int .u64 st]) rfl
theorem BK.mid (b : BK) : Mid b.cells 1 b.T := bkC_mid
theorem bkC_n0 {st : Int} {T : List Value} {cl : Bool} : nth (bkC st T cl) 0 = some (.int .u64 st) := rfl
theorem bkC_nT {st : Int} {T : List Value} {cl : Bool} {i : Nat} {v : Value} (h : nth T i = some v) : nth (bkC st T cl) (1 + i) = some v := nth_mid (pre := [Value.int .u64 st]) rfl h
theorem bkC_n2 {st : Int} {A : Option Addr} {n c : Nat} {m : Int} {k : Id} {cl : Bool} : nth (bkC st (tc A n c m k) cl) 2 = some (.int .i64 m) := bkC_nT (i := 1) tc_n1
theorem bkC_n1 {st : Int} {A : Option Addr} {n c : Nat} {m : Int} {k : Id} {cl : Bool} : nth (bkC st (tc A n c m k) cl) 1 = some (.slice A n c) := bkC_nT (i := 0) tc_n0
theorem bkC_n19 {st : Int} {T : List Value} {cl : Bool} (h : T.length = 18) : nth (bkC st T cl) 19 = some (.bool cl) := by
 rw [nth_eq]
 unfold bkC
 rw [List.getElem?_append_right (by simp [h])]
 simp [h]
theorem bkC_n19' {st : Int} {A : Option Addr} {n c : Nat} {m : Int} {k : Id} {cl : Bool} : nth (bkC st (tc A n c m k) cl) 19 = some (.bool cl) := bkC_n19 tc_len
theorem bkC_put {st : Int} {T T' : List Value} {cl : Bool} (h : T.length = 18) (h' : T'.length = 18) : (bkC st T cl).take 1 ++ T' ++ (bkC st T cl).drop (1 + T'.length) = bkC st T' cl := by
 unfold bkC
 rw [h', show [Value.int .u64 st] ++ T ++ [Value.bool cl] = ([Value.int .u64 st] ++ T) ++ [Value.bool cl] from rfl, List.drop_append_of_le_length (by simp [h]), List.drop_eq_nil_of_le (by simp [h])]
 rfl
theorem bkC_set19 {st : Int} {T : List Value} {cl cl' : Bool} (h : T.length = 18) : SetAt 19 (.bool cl') (bkC st T cl) (bkC st T cl') := by
 have h1 := SetAt.mk (i := 19) (v := .bool cl') (r := bkC st T cl) (by rw [bkC_len h]; decide)
 have h2 : (bkC st T cl).set 19 (.bool cl') = bkC st T cl' := by
  unfold bkC
  rw [List.set_append_right _ _ (by simp [h])]
  simp [h]
 rwa [h2] at h1
def BM : MK BK := ⟨fun b => .int .u64 b.st, fun b => .agg b.cells.toArray, fun b => b.bn, fun b => eo b.A b.l.length b.c b.l⟩
def boC (t : Ta) (r : Rl) (m : Nat) : List Value := t.c ++ r.c ++ [.map (some m)]
theorem boC_mt {t : Ta} {r : Rl} {m : Nat} : Mid (boC t r m) 0 t.c := by
 unfold boC
 rw [List.append_assoc]; exact Mid.head
theorem boC_mr {t : Ta} {r : Rl} {m : Nat} : Mid (boC t r m) 8 r.c := Mid.of_append (a := t.c) rfl
abbrev bB (g : Nat) (t : Ta) (r : Rl) (m : Nat) : Fa := blk g 152 (boC t r m)
abbrev bM (m : Nat) (fs : List BK) (ck : Nat) : Fa := kM BM m (.int .u64) fs ck
abbrev bS (fs : List BK) : Fa := kS BM fs
theorem bget {fs : List BK} {b : BK} (h : b ∈ fs) : MGet (fs.map BM.ent) (.int .u64 b.st) (.agg (bkC b.st (tc b.A b.l.length b.c b.m b.k) b.cl).toArray) := kget (M := BM) h
def bfind (fs : List BK) (s : Int) : Option BK := fs.find? (fun b => decide (b.st = s))
theorem bfind_some {fs : List BK} {s : Int} {b : BK} (h : bfind fs s = some b) : b ∈ fs ∧ b.st = s := ⟨List.mem_of_find?_eq_some h, by simpa using List.find?_some h⟩
theorem bfind_none {fs : List BK} {s : Int} (h : bfind fs s = none) : ∀ b ∈ fs, b.st ≠ s := fun b hb => by simpa using List.find?_eq_none.1 h b hb
theorem bno {fs : List BK} {s : Int} (h : bfind fs s = none) : MNo (fs.map BM.ent) (.int .u64 s) := kno (M := BM) fun b hb e => by
 have e' : Value.int .u64 b.st = .int .u64 s := e
 injection e' with _ e'
 exact bfind_none h b hb e'
def fitsE (r : Rl) (fs : List BK) (now : Int) : Int := if 1099511627776 < now then 15 else match bfind fs (stN r.w now) with
 | none => if fs.length = 32 then 5 else if r.mx ≤ 0 then 18 else 0
 | some b => if b.cl then 16 else if r.mx ≤ b.m then 18 else 0
theorem bz_eq : ([.int .u64 0, .slice none 0 0, .int .i64 0, .int .u8 0, .int .u8 0, .int .u8 0, .int .u8 0, .int .u8 0, .int .u8 0, .int .u8 0, .int .u8 0, .int .u8 0, .int .u8 0, .int .u8 0, .int .u8 0, .int .u8 0, .int .u8 0, .int .u8 0, .int .u8 0, .bool false] : List Value) = bkC 0 tz false := by
 unfold bkC
 rw [tz_eq]
 rfl
namespace pGg
theorem nthx_ (h : φ := by first | exact bkC_n0 | exact bkC_n1 | exact bkC_n2 | exact bkC_n19' | exact tc_n0 | exact tc_n1) : φ := h
theorem midx_ (h : φ := by first | exact boC_mt | exact boC_mr | exact bkC_mid | exact Ta.mid _ | exact tc_mid | exact Mid.all) : φ := h
theorem szx_ (h : φ := by ((first | (rw [bkC_len tc_len]; rfl) | rw [bkC_len tc_len] | rw [BK.len] | (rw [bytes_length, Id.len]; rfl) | (rw [tc_len]; rfl) | rw [tc_len, tc_len]); first | done | fail)) : φ := h
theorem onex_ (h : φ := by first | exact BK.one _ | exact bkC_one tc_one | exact tc_one | exact Ta.one _ | exact Rl.one _ | exact one_bytes _) : φ := h
theorem setx_ (h : φ := by first | exact tc_set0 | exact bkC_set19 tc_len) : φ := h
end pGg
open pGg
theorem start_ok {K : List Fa} {r : Rl} {now : Int} (hw : 0 ≤ r.w) (h : 0 ≤ now ∧ now ≤ 18446744073709551615) :
  Fn Tryz.prog 35 #[.agg r.c.toArray, .int .u64 now] K (Ret (fun _ : Unit => True) (fun _ => .int .u64 (stN r.w now)) (fun _ => K)) := by
 refine fe_ Tryz.func35 Tryz.ntmps35 [(0, .agg r.c.toArray), (1, .int .u64 now)] ?_
 have hs := stN_le hw h.1
 by_cases h0 : r.w = 0
 ·rw [show stN r.w now = now by unfold stN; rw [if_pos h0]]; refine go_ ?_; refine bx_ ?_; intro g1; refine go_ ?_; exact r1_ ()
 ·have e : stN r.w now = now / r.w * r.w := by unfold stN; rw [if_neg h0]
  rw [e] at hs ⊢
  have hq : 0 ≤ now / r.w ∧ now / r.w ≤ now := ⟨Int.ediv_nonneg h.1 hw, Int.ediv_le_self _ h.1⟩
  refine go_ ?_; refine bx_ ?_; intro g1; refine go_ ?_
  ((refine sq_region (by kernel_rfl) (by kernel_rfl) ?_; (repeat refine rq_ ?_); refine sq_end ?_))
  refine go_ ?_; exact r1_ ()
theorem o1_Gg (h : φ := by exact r1_ ()) : φ := h
theorem rcheck_ok {K : List Fa} {r : Rl} {t : Ta} :
  Fn Tryz.prog 20 #[.agg r.c.toArray, .agg t.c.toArray] K (Ret (fun _ : Unit => True) (fun _ => .int .i64 (rErr r t)) (fun _ => K)) := by
 refine fe_ Tryz.func20 Tryz.ntmps20 [(0, .agg r.c.toArray), (1, .agg t.c.toArray)] ?_; refine go_ ?_; refine bx_ ?_; intro g1; refine go_ ?_; refine bx_ ?_; intro g2; refine go_ ?_; refine slc_ rfl rfl sub_ (tcheck_ok t.kd t.fl t.bt t.ln t.wt t.ch t.np t.tag) ?_; rintro _ -
 by_cases ht : t.err = 0
 case neg =>
  rw [show rErr r t = t.err by unfold rErr; rw [if_pos ht], show tErr t.kd t.fl t.bt t.ln t.wt t.ch t.np t.tag = t.err from rfl]; refine go_ ?_; exact o1_Gg
 rw [show tErr t.kd t.fl t.bt t.ln t.wt t.ch t.np t.tag = 0 from ht]
 have he : rErr r t = if r.w < 1 ∨ 1099511627776 < r.w then 6 else if r.mn < 1 ∨ r.mx < r.mn ∨ 256 < r.mx then 6 else 0 := by unfold rErr; rw [if_neg (by simp [ht])]
 rw [he]
 obtain ⟨w, mn, mx⟩ := r
 dsimp only
 by_cases h1 : w < 1
 ·rw [if_pos (.inl h1)]; refine go_ ?_; exact o1_Gg
 by_cases h2 : 1099511627776 < w
 ·rw [if_pos (.inr h2)]; refine go_ ?_; exact o1_Gg
 rw [if_neg (by omega)]
 by_cases h3 : mn < 1
 ·rw [if_pos (.inl h3)]; refine go_ ?_; exact o1_Gg
 by_cases h4 : mx < mn
 ·rw [if_pos (.inr (.inl h4))]; refine go_ ?_; exact o1_Gg
 by_cases h5 : 256 < mx
 ·rw [if_pos (.inr (.inr h5))]; refine go_ ?_; exact o1_Gg
 ·rw [if_neg (by omega)]; refine go_ ?_; exact o1_Gg
theorem bnew_ok {K : List Fa} {r : Rl} {t : Ta} (h : rErr r t = 0) :
  Fn Tryz.prog 41 #[.agg t.c.toArray, .agg r.c.toArray] K (Ret (fun _ : Nat × Nat => True) (fun q => .tuple #[.pointer (some ⟨q.1, 0, none⟩), .int .i64 0]) (fun q => bB q.1 t r q.2 :: bM q.2 [] 0 :: bS [] :: K)) := by
 refine fe_ Tryz.func41 Tryz.ntmps41 [(0, .agg t.c.toArray), (1, .agg r.c.toArray)] ?_; refine go_ ?_; refine bx_ ?_; intro g1; refine go_ ?_; refine bx_ ?_; intro g2; refine go_ ?_; refine slc_ rfl rfl sub_ rcheck_ok ?_; rintro _ -; rw [h]; refine go_ ?_; refine sl_makeMap (d := .int .u64) rfl ?_; intro m; refine sl_pu (pu_build (v := .agg (boC t r m).toArray) rfl (fun W => by kernel_rfl)) rfl ?_; refine bx_ ?_; intro g; refine go_ ?_; exact se_ret2 (g, m) trivial rfl rfl rfl rfl (.cons .here (.cons .here (sub_star0 sub_)))
end
end
section
open Go.RowKit Go.MapKept
attribute [local irreducible] Go.Calls Go.Exit.then Go.Exit.inBlock Go.bodyPost Go.Code.wp Go.wpList takeL recordL hashL recL allL decR
section
structure StM where
 gj : Nat
 gi : Nat
 gb : Nat
 mw : Nat
 mb : Nat
 ms : Nat
 iA : Option Addr
 ic : Nat
 ss : List Seen
 fs : List BK
 cb : Nat
 ws : List Wt
 cw : Nat
 sd : List Sd
 cs : Nat
 life : Int
abbrev sF (g : Nat) (t : Ta) (r : Rl) (lim : Int) (q : StM) (K : List Fa) : List Fa := sB g t q.gj q.gi q.gb q.mw q.ms q.life :: ixb q.gi q.iA q.ss.length q.ic lim :: ixo q.iA q.ic q.ss :: bB q.gb t r q.mb :: bM q.mb q.fs q.cb :: bS q.fs :: wM q.mw q.ws q.cw :: wS q.ws :: dMm q.ms q.sd q.cs :: dSs q.sd :: K
structure JO where
 gj : Nat
 R : Option Addr
 c : Nat
 xs : List Sx
 fs : List DF
 ck : Nat
structure OpR where
 g : Nat
 q : StM
 f : DF
 ck : Nat
def orV : JO ⊕ OpR → Value
 | .inl _ => .tuple #[.pointer none, .int .i64 23]
 | .inr x => .tuple #[.pointer (some ⟨x.g, 0, none⟩), .int .i64 0]
def orP (ψ Ev : JO → Prop) (I : JO → Nat → Nat → StM → Prop) (ls : List (List Int)) : JO ⊕ OpR → Prop
 | .inl p => ψ p ∧ Ev p
 | .inr x => ∃ p q, ψ p ∧ I p x.g ls.length q ∧ x.q = { q with life := q.life + 1 } ∧ JFl (ls ++ [5 :: rcLife (q.life + 1)]) (cellsA (ls ++ [5 :: rcLife (q.life + 1)]) * 64) x.f
def orH (t : Ta) (r : Rl) (lim limd : Int) (gd md : Nat) (ls : List (List Int)) (K : List Fa) : JO ⊕ OpR → List Fa
 | .inl p => dB gd md limd :: dM md p.fs p.ck :: dS p.fs :: K
 | .inr x => sF x.g t r lim x.q (jC x.q.gj gd sj (cellsA (ls ++ [5 :: rcLife x.q.life])) :: dB gd md limd :: dM md [x.f] x.ck :: dS [x.f] :: K)
theorem stC9_n9 {t : Ta} {gj gi gb mw ms : Nat} {life : Int} : nth (stC9 t gj gi gb mw ms life) 13 = some (.int .u64 life) := rfl
theorem stC9_set {t : Ta} {gj gi gb mw ms : Nat} {life v : Int} : SetAt 13 (.int .u64 v) (stC9 t gj gi gb mw ms life) (stC9 t gj gi gb mw ms v) := SetAt.tail (k := 8) (a := t.c) (i := 5) rfl (SetAt.there (SetAt.there (SetAt.there (SetAt.there (SetAt.there SetAt.here)))))
theorem cells_len (ls : List (List Int)) : ls.length ≤ cellsA ls := by
 refine snoc_ind (P := fun ls => ls.length ≤ cellsA ls) (Nat.zero_le _) (fun l x ih => ?_) ls
 rw [cellsA_snoc, List.length_append]
 have := many_pos x.length
 simp
 omega
namespace pSko
theorem nthx_ (h : φ := by first | rfl | exact stC9_n9) : φ := h
theorem midx_ (h : φ := by first | exact stC9_mid | exact stC9_ci | exact Mid.all) : φ := h
theorem onex_ (h : φ := by first | exact one_bytes _ | exact Ta.one _ | exact Rl.one _) : φ := h
theorem setx_ (h : φ := by exact stC9_set) : φ := h
end pSko
open pSko
theorem ssync_ok {K : List Fa} {g gj gi gb mw ms gd md ckd σ k : Nat} {t : Ta} {life lim : Int} {ls : List (List Int)} {f : DF} (hF : JFl ls σ f) (hn : f.l.length ≤ 1048576) :
  Fn Tryz.prog 11 #[.pointer (some ⟨g, 0, none⟩)] (sB g t gj gi gb mw ms life :: jC gj gd sj k :: dB gd md lim :: dM md [f] ckd :: dS [f] :: K) (Ret (fun q : DF => JFl ls f.l.length q) (fun _ => .int .i64 0) (fun q => sB g t gj gi gb mw ms life :: jC gj gd sj k :: dB gd md lim :: dM md [q] ckd :: dS [q] :: K)) := by
 refine fe_ Tryz.func11 Tryz.ntmps11 [(0, .pointer (some ⟨g, 0, none⟩))] ?_; refine go_ ?_; refine slc_ rfl rfl sub_ (sync_Js (K := sB g t gj gi gb mw ms life :: K) (gj := gj) (g := gd) (m := md) (ck := ckd) (k := k) (lim := lim) hF hn) ?_; rintro q hq; refine go_ ?_; exact se_ret1 q hq rfl rfl sub_
theorem o1_Sko (k : ψ) (h : Hide ψ → φ := by (intro k; refine slc_ rfl rfl Sub.refl (new_ok limit) ?_; exact k.out)) : φ := h ⟨k⟩
theorem o2_Sko (k : ψ) (h : Hide ψ → φ := by (intro k; refine sl_makeMap (d := .array 16 5) rfl ?_; exact k.out)) : φ := h ⟨k⟩
theorem o3_Sko (k : ψ) (h : Hide ψ → φ := by (intro k; refine sl_pu (pu_build (v := .agg (stC9 t p.gj gi gb mw ms 0).toArray) rfl (fun W => by kernel_rfl)) rfl ?_; exact k.out)) : φ := h ⟨k⟩
theorem o4_Sko (h : φ := by exact se_mid (g, g14, gi, mw, ms) has_ sub_ trivial) : φ := h
theorem e1_Sko (h : φ := by (refine v1_ 7 ?_; refine o3_Sko ?_; refine v1_ 8 ?_; refine bx_ ?_; intro g; refine v1_ 10 ?_; refine sto_ ?_; refine vx_ ?_; exact o4_Sko)) : φ := h
theorem e2_Sko (h : φ := by (refine bx_ ?_; intro g; refine v1_ 9 ?_; refine al_ ?_; intro g14; refine v1_ 10 ?_; refine sto_ ?_; refine vx_ ?_; exact o4_Sko)) : φ := h
theorem e3_Sko (h : φ := by (refine al_ ?_; intro g14; refine v1_ 8 ?_; refine bx_ ?_; intro g; refine v1_ 10 ?_; refine sto_ ?_; refine vx_ ?_; exact o4_Sko)) : φ := h
theorem e4_Sko (h : φ := by (refine v1_ 3 ?_; refine o1_Sko ?_; rintro gi -; exact e1_Sko)) : φ := h
theorem open_ok {K0 : List Fa} {fsd : List DF} {gd md ckd σ : Nat} {limd : Int} {t : Ta} {r : Rl} {limit : Int} {ls : List (List Int)} {ψ Ev : JO → Prop} {Kp : JO → Fa} {I : JO → Nat → Nat → StM → Prop}
  (hr : rErr r t = 0) (hcc : cellsA ls ≤ 15000) (hlim : (((cellsA ls + 1) * 64 : Nat) : Int) ≤ limd) (hlm : limd ≤ 1048576)
  (hjo : ∀ E : List Fa, Fn Tryz.prog 42 #[.pointer (some ⟨gd, 0, none⟩), .string sj] (dB gd md limd :: dM md fsd ckd :: dS fsd :: E) (Ret ψ (fun p => .tuple #[.pointer (some ⟨p.gj, 0, none⟩), .slice p.R p.xs.length p.c, .int .i64 0]) (fun p => jC p.gj gd sj (cellsA ls) :: dB gd md limd :: dM md p.fs p.ck :: dS p.fs :: Kp p :: E)))
  (hJS : ∀ p, ψ p → JSt ls p.fs p.ck σ ∧ p.xs.length = ls.length ∧ (p.xs ≠ [] → Vw [Kp p] (fun w => Reads w 1 p.R p.xs.length (sxV p.xs))))
  (hI0 : ∀ p g q, ψ p → q.gj = p.gj → q.ss = [] → q.fs = [] → q.ws = [] → q.sd = [] → q.life = 0 → I p g 0 q)
  (hst : ∀ p g j x q K', ψ p → p.xs[j]? = some x → Sub K' [Kp p] → I p g j q → Fn Tryz.prog 44 #[.pointer (some ⟨g, 0, none⟩), x.v] (sF g t r (min (max limit 0) 256) q K') (Ret (fun z : Int × StM => (z.1 = 0 → I p g (j + 1) z.2) ∧ (z.1 ≠ 0 → Ev p)) (fun z => .int .i64 z.1) (fun z => sF g t r (min (max limit 0) 256) z.2 K')))
  (hIl : ∀ p g q, I p g ls.length q → q.gj = p.gj ∧ 0 ≤ q.life ∧ q.life ≤ 281474976710000) :
  Fn Tryz.prog 9 #[.pointer (some ⟨gd, 0, none⟩), .agg t.c.toArray, .agg r.c.toArray, .int .i64 limit] (dB gd md limd :: dM md fsd ckd :: dS fsd :: K0)
   (Ret (orP ψ Ev I ls) orV (orH t r (min (max limit 0) 256) limd gd md ls K0)) := by
 refine fe_ Tryz.func9 Tryz.ntmps9 [(0, .pointer (some ⟨gd, 0, none⟩)), (1, .agg t.c.toArray), (2, .agg r.c.toArray), (3, .int .i64 limit)] ?_; refine go_ ?_; refine bx_ ?_; intro g5; refine go_ ?_; refine bx_ ?_; intro g6; refine go_ ?_; refine slc_ rfl rfl Sub.refl (bnew_ok hr) ?_; rintro ⟨gb, mb⟩ -; dsimp only; refine go_ ?_; refine slc_ rfl rfl sub_ (hjo (bB gb t r mb :: bM mb [] 0 :: bS [] :: blk g6 38 r.c :: blk g5 34 t.c :: K0)) ?_; rintro p hp
 obtain ⟨hJS1, hJS2, hJS3⟩ := hJS p hp
 have hll := cells_len ls
 refine go_ ?_
 refine sc_join (α := Nat × Nat × Nat × Nat × Nat) (fun q => [(14, .pointer (some ⟨q.2.1, 0, none⟩)), (13, .slice p.R p.xs.length p.c)])
  (fun q => goB q.2.1 q.1 :: sB q.1 t p.gj q.2.2.1 gb q.2.2.2.1 q.2.2.2.2 0 :: ixb q.2.2.1 none 0 0 (min (max limit 0) 256) :: bB gb t r mb :: bM mb [] 0 :: bS [] :: wM q.2.2.2.1 [] 0 :: dMm q.2.2.2.2 [] 0 :: jC p.gj gd sj (cellsA ls) :: dB gd md limd :: dM md p.fs p.ck :: dS p.fs :: Kp p :: K0) (fun _ => True) ?_ ?_
 ·refine dr_ [blk g5 34 t.c] 11 ?_; refine y4_ 0 1 2 4 ?_; refine w4_ 3 5 6 9 ?_ ?_ ?_ ?_
  ·refine o1_Sko ?_; rintro gi -; refine wn_ ?_; refine w3_ 5 6 9 ?_ ?_ ?_
   ·refine o2_Sko ?_; intro mw; refine v2_ 6 9 ?_ ?_
    ·refine o2_Sko ?_; intro ms; refine v2_ 7 9 ?_ ?_
     ·refine o3_Sko ?_; refine v2_ 8 9 ?_ ?_
      ·exact e2_Sko
      ·exact e3_Sko
     ·refine al_ ?_; intro g14; exact e1_Sko
    ·refine al_ ?_; intro g14; refine v1_ 6 ?_; refine o2_Sko ?_; intro ms; exact e1_Sko
   ·refine o2_Sko ?_; intro ms; refine v2_ 5 9 ?_ ?_
    ·refine o2_Sko ?_; intro mw; refine v2_ 7 9 ?_ ?_
     ·refine o3_Sko ?_; refine v2_ 8 9 ?_ ?_
      ·exact e2_Sko
      ·exact e3_Sko
     ·refine al_ ?_; intro g14; exact e1_Sko
    ·refine al_ ?_; intro g14; refine v1_ 5 ?_; refine o2_Sko ?_; intro mw; exact e1_Sko
   ·refine al_ ?_; intro g14; refine v2_ 5 6 ?_ ?_
    ·refine o2_Sko ?_; intro mw; refine v1_ 6 ?_; refine o2_Sko ?_; intro ms; exact e1_Sko
    ·refine o2_Sko ?_; intro ms; refine v1_ 5 ?_; refine o2_Sko ?_; intro mw; exact e1_Sko
  ·refine o2_Sko ?_; intro mw; refine wn_ ?_; refine w3_ 3 6 9 ?_ ?_ ?_
   ·refine o1_Sko ?_; rintro gi -; refine v2_ 6 9 ?_ ?_
    ·refine o2_Sko ?_; intro ms; refine v2_ 7 9 ?_ ?_
     ·refine o3_Sko ?_; refine v2_ 8 9 ?_ ?_
      ·exact e2_Sko
      ·exact e3_Sko
     ·refine al_ ?_; intro g14; exact e1_Sko
    ·refine al_ ?_; intro g14; refine v1_ 6 ?_; refine o2_Sko ?_; intro ms; exact e1_Sko
   ·refine o2_Sko ?_; intro ms; refine v2_ 3 9 ?_ ?_
    ·refine o1_Sko ?_; rintro gi -; refine v2_ 7 9 ?_ ?_
     ·refine o3_Sko ?_; refine v2_ 8 9 ?_ ?_
      ·exact e2_Sko
      ·exact e3_Sko
     ·refine al_ ?_; intro g14; exact e1_Sko
    ·refine al_ ?_; intro g14; exact e4_Sko
   ·refine al_ ?_; intro g14; refine v2_ 3 6 ?_ ?_
    ·refine o1_Sko ?_; rintro gi -; refine v1_ 6 ?_; refine o2_Sko ?_; intro ms; exact e1_Sko
    ·refine o2_Sko ?_; intro ms; exact e4_Sko
  ·refine o2_Sko ?_; intro ms; refine wn_ ?_; refine w3_ 3 5 9 ?_ ?_ ?_
   ·refine o1_Sko ?_; rintro gi -; refine v2_ 5 9 ?_ ?_
    ·refine o2_Sko ?_; intro mw; refine v2_ 7 9 ?_ ?_
     ·refine o3_Sko ?_; refine v2_ 8 9 ?_ ?_
      ·exact e2_Sko
      ·exact e3_Sko
     ·refine al_ ?_; intro g14; exact e1_Sko
    ·refine al_ ?_; intro g14; refine v1_ 5 ?_; refine o2_Sko ?_; intro mw; exact e1_Sko
   ·refine o2_Sko ?_; intro mw; refine v2_ 3 9 ?_ ?_
    ·refine o1_Sko ?_; rintro gi -; refine v2_ 7 9 ?_ ?_
     ·refine o3_Sko ?_; refine v2_ 8 9 ?_ ?_
      ·exact e2_Sko
      ·exact e3_Sko
     ·refine al_ ?_; intro g14; exact e1_Sko
    ·refine al_ ?_; intro g14; exact e4_Sko
   ·refine al_ ?_; intro g14; refine v2_ 3 5 ?_ ?_
    ·refine o1_Sko ?_; rintro gi -; refine v1_ 5 ?_; refine o2_Sko ?_; intro mw; exact e1_Sko
    ·refine o2_Sko ?_; intro mw; exact e4_Sko
  ·refine al_ ?_; intro g14; refine wn_ ?_; refine w3_ 3 5 6 ?_ ?_ ?_
   ·refine o1_Sko ?_; rintro gi -; refine v2_ 5 6 ?_ ?_
    ·refine o2_Sko ?_; intro mw; refine v1_ 6 ?_; refine o2_Sko ?_; intro ms; exact e1_Sko
    ·refine o2_Sko ?_; intro ms; refine v1_ 5 ?_; refine o2_Sko ?_; intro mw; exact e1_Sko
   ·refine o2_Sko ?_; intro mw; refine v2_ 3 6 ?_ ?_
    ·refine o1_Sko ?_; rintro gi -; refine v1_ 6 ?_; refine o2_Sko ?_; intro ms; exact e1_Sko
    ·refine o2_Sko ?_; intro ms; exact e4_Sko
   ·refine o2_Sko ?_; intro ms; refine v2_ 3 5 ?_ ?_
    ·refine o1_Sko ?_; rintro gi -; refine v1_ 5 ?_; refine o2_Sko ?_; intro mw; exact e1_Sko
    ·refine o2_Sko ?_; intro mw; exact e4_Sko
 rintro ⟨g, g14, gi, mw, ms⟩ -; dsimp only
 obtain ⟨R, hR⟩ : ∃ R, R = p.R := ⟨_, rfl⟩
 rw [← hR] at hJS3 ⊢
 refine go_ ?_
 refine sc_for (fun z : Nat × StM => [(14, .pointer (some ⟨g14, 0, none⟩)), (46, .slice R p.xs.length p.c), (47, .int .i64 p.xs.length), (48, .int .i64 z.1)])
  (fun z => sF g t r (min (max limit 0) 256) z.2 (goB g14 g :: jC p.gj gd sj (cellsA ls) :: dB gd md limd :: dM md p.fs p.ck :: dS p.fs :: Kp p :: K0)) (fun z => z.1 ≤ p.xs.length ∧ I p g z.1 z.2) (fun z => p.xs.length - z.1)
  (0, ⟨p.gj, gi, gb, mw, mb, ms, none, 0, [], [], 0, [], 0, [], 0, 0⟩) has_
  (by exact Sub.cons pick_ (Sub.cons pick_ (Sub.own_nil (Sub.cons pick_ (Sub.cons pick_ (Sub.cons pick_ (Sub.cons pick_ (sub_star0 (Sub.cons pick_ (sub_star0 sub_))))))))))
  ⟨Nat.zero_le _, hI0 _ _ _ hp rfl rfl rfl rfl rfl rfl⟩ ?_
 rintro ⟨j, q⟩ ⟨hj, hI⟩
 dsimp only at hj hI ⊢
 by_cases hlt : j < p.xs.length
 ·obtain ⟨x, hx⟩ : ∃ x, p.xs[j]? = some x := ⟨p.xs[j], List.getElem?_eq_getElem hlt⟩
  have hne : p.xs ≠ [] := fun e => by rw [e] at hlt; simp at hlt
  have hvw := hJS3 hne
  refine sc_know (fun w hw => vw_form hvw (by omega) w (hw.sub (by exact Sub.cons pick_ Sub.nil))) ?_; rintro ⟨ad, rfl⟩
  have hnth : nth (sxV p.xs) (j * 1) = some x.v := by
   rw [nth_eq, Nat.mul_one, sxV, List.getElem?_map, hx]
   rfl
  refine go_ ?_; refine sl_pu (pu_ldr (hvw.mono (by exact Sub.cons pick_ Sub.nil)) (by omega) rfl rfl hnth) rfl ?_; refine go_ ?_; refine slc_ rfl rfl Sub.refl (hst p g j x q _ hp hx (by exact Sub.cons pick_ Sub.nil) hI) ?_; rintro ⟨z1, q2⟩ hz
  dsimp only at hz ⊢
  by_cases hz1 : z1 = 0
  ·subst hz1; refine go_ ?_; exact se_round (j + 1, q2) has_ sub_ ⟨hlt, hz.1 rfl⟩ (by dsimp only; omega)
  ·refine go_ ?_; exact se_ret2 (.inl p) ⟨hp, hz.2 hz1⟩ rfl rfl rfl rfl sub_
 ·obtain rfl : j = p.xs.length := by omega
  rw [hJS2] at hI
  obtain ⟨hIj, hIa, hIb⟩ := hIl _ _ _ hI
  have hlr : (rcLife (q.life + 1)).length = 6 := le_len _ _
  have hml : manyL (5 :: rcLife (q.life + 1)).length = 1 := by rw [List.length_cons, hlr]; rfl
  have hrb : IsBytes (5 :: rcLife (q.life + 1)) := fun x hx => by
   rcases List.mem_cons.1 hx with e | e
   ·omega
   ·exact le_bytes _ _ x e
  have hcs : cellsA (ls ++ [5 :: rcLife (q.life + 1)]) = cellsA ls + 1 := by rw [cellsA_snoc, hml]
  rw [← hIj]; refine go_ ?_
  refine sl_call rfl rfl (by kernel_rfl) rfl sub_ (note_ok (K := ixb q.gi q.iA q.ss.length q.ic (min (max limit 0) 256) :: ixo q.iA q.ic q.ss :: bB q.gb t r q.mb :: bM q.mb q.fs q.cb :: bS q.fs :: wM q.mw q.ws q.cw :: wS q.ws :: dMm q.ms q.sd q.cs :: dSs q.sd :: goB g14 g :: K0)
    (g := g) (gj := q.gj) (gi := q.gi) (gb := q.gb) (mw := q.mw) (ms := q.ms) (gd := gd) (md := md) (t := t) (life := q.life + 1) (lim := limd) (kind := 5) (f := 46) (caps := [.pointer (some ⟨g14, 0, none⟩)]) (bs := rcLife (q.life + 1))
    (by kernel_rfl) hJS1 hrb (by rw [List.length_cons, hlr]; decide) (by omega) (by rw [hml]; exact hlim) hlm (fun b A c => fLife_ok at_ at_ ⟨by omega, by omega⟩)) ?_
  rintro ⟨f, ck2⟩ hf
  dsimp only at hf ⊢
  have hfl : f.l.length = cellsA (ls ++ [5 :: rcLife (q.life + 1)]) * 64 := by rw [hf.2.1, allL_len]
  refine go_ ?_; refine dr_ [goB g14 g] 5 ?_; refine y2_ 0 1 ?_; refine w1_ 2 ?_; refine slc_ rfl rfl sub_ (ssync_ok (K := ixb q.gi q.iA q.ss.length q.ic (min (max limit 0) 256) :: ixo q.iA q.ic q.ss :: bB q.gb t r q.mb :: bM q.mb q.fs q.cb :: bS q.fs :: wM q.mw q.ws q.cw :: wS q.ws :: dMm q.ms q.sd q.cs :: dSs q.sd :: goB g14 g :: K0) (g := g) (gj := q.gj) (gi := q.gi) (gb := q.gb) (mw := q.mw) (ms := q.ms) (gd := gd) (md := md) (ckd := ck2) (t := t) (life := q.life + 1) (lim := limd) hf (by omega)) ?_; rintro f2 hf2; refine vy_ 3 ?_; refine wy_ 4 ?_; refine wx_ ?_; refine go_ ?_
  rw [hfl] at hf2
  exact se_ret2 (.inr ⟨g, { q with life := q.life + 1 }, f2, ck2⟩) ⟨p, q, hp, hI, rfl, hf2⟩ rfl rfl rfl rfl sub_
end
end
end Go.Proofs.YtocaabnbmcpjmaaGreat
