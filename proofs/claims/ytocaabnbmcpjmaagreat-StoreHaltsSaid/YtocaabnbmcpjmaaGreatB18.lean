/- Several texts of one claim, one behind the other (Skc, Ska, Skg). -/
import Derived.Test.YtocaabnbmcpjmaaGreatB17
import Derived.Test.YtocaabnbmcpjmaaGreatB07
set_option linter.unusedVariables false
set_option linter.unusedSimpArgs false
/- Package store: the closures that fill a record. -/
namespace Go.Proofs.YtocaabnbmcpjmaaGreat
open Go.RowKit Go.MapKept
attribute [local irreducible] Go.Calls Go.Exit.then Go.Exit.inBlock Go.bodyPost Go.Code.wp Go.wpList takeL recordL hashL recL allL
/-- What a report is in the journal. -/
def rcAcc (id : Id) (t : Int) (p s : List Int) : List Int := id.l ++ (le t 6 ++ ((le p.length 4 ++ p) ++ (le s.length 4 ++ s)))
def rcLife (n : Int) : List Int := le n 6
theorem nth_Skc {φ : Prop} (h : φ := by (first | rfl | first | rfl | exact rpC_n16 | exact rpC_n17 | exact rpC_n18)) : φ := h
theorem mid_Skc {φ : Prop} (h : φ := by (first | first | exact rpC_id | exact Mid.all | exact Mid.all | exact Mid.head)) : φ := h
theorem sz_Skc {φ : Prop} (h : φ := by (first | rfl | ((try simp only [rpC_len, bytes_length, Id.len]); (first | done | rfl); first | done | fail))) : φ := h
theorem one_Skc {φ : Prop} (h : φ := by (first | assumption | exact exact one_bytes _ | (simp only [List.mem_cons, List.not_mem_nil, or_false, forall_eq_or_imp, forall_eq]; decide) | exact one_bytes _ | (intro v hv; (repeat (rcases List.mem_cons.1 hv with rfl | hv; rfl)); cases hv))) : φ := h
theorem set_Skc {φ : Prop} (h : φ := by (first | (fail) | ((repeat (first | exact SetAt.here | apply SetAt.there)); first | done | fail))) : φ := h
theorem cl_Skc {φ : Prop} (h : φ := by first | rfl | exact .t | exact .f | exact .t (by omega) | exact .f (by omega) | exact .u | exact .i (by (first | exact .t (by omega) | exact .f (by omega) | exact .u | exact .i (by omega) | exact .v (by omega) | exact .b (by omega) | exact .w | rfl | omega)) | exact .v (by omega) | exact .b (by omega) | exact .q (by omega) | exact .w | exact .b (by exact at_) rfl (by exact nth_Skc) | exact .w (by exact at_) rfl rfl (by exact sz_Skc) | exact .s (by exact at_) (by exact mid_Skc) rfl rfl (by exact sz_Skc) | exact .z rfl rfl ⟨by kernel_rfl⟩ | exact .b rfl rfl ⟨by kernel_rfl⟩ | exact .a rfl rfl ⟨by kernel_rfl⟩ | exact .o rfl | exact .s | exact .n | exact .p rfl | exact .q rfl | exact .c rfl | exact .d rfl | exact .n rfl rfl (by omega) | exact .a rfl rfl (by omega) | exact .p rfl rfl (by omega) (by omega) | exact .y rfl rfl (by omega) (by omega) | exact .o (by exact at_) (by omega) rfl (by exact nth_Skc) | exact .m (by exact at_) (by omega) (by exact mid_Skc) rfl rfl (by exact sz_Skc) | exact .mlen (by exact at_) rfl | exact .t (by exact at_) rfl rfl (by first | exact True.intro | rfl) (by assumption) | exact .f (by exact at_) rfl rfl (by first | exact True.intro | rfl) (by assumption) rfl | exact .t1 (by exact at_) rfl rfl (by first | exact True.intro | rfl) (by assumption) | exact .f1 (by exact at_) rfl rfl (by first | exact True.intro | rfl) (by assumption) rfl | exact .tk (by exact at_) rfl (by assumption) (by assumption) | exact .fk (by exact at_) rfl (by assumption) (by assumption) rfl | exact .tk1 (by exact at_) rfl (by assumption) (by assumption) | exact .fk1 (by exact at_) rfl (by assumption) (by assumption) rfl | exact .r rfl rfl (by omega) (by omega) (by exact nth_Skc) rfl | exact .s rfl (by omega) (by assumption) | exact at_ | assumption | exact .r rfl rfl | exact .h rfl rfl rfl (by omega) | exact .l rfl rfl rfl (by omega) (by omega) | exact .g rfl rfl rfl rfl (by omega) (by omega) | exact .h rfl rfl (toN_ (by omega)) (by omega) | exact .l rfl rfl (toN_ (by omega)) (by omega) (by omega) | exact .g rfl rfl (toN_ (by omega)) (toN_ (by omega)) (by omega) (by omega) | exact .o (by decide) | exact .f (by decide) | exact .n (by omega) (by first | decide | (show _ ≤ ((64 : Nat) : Int); omega)) | (constructor; (repeat (first | exact .t (by omega) | exact .f (by omega) | exact .u | exact .i (by omega) | exact .v (by omega) | exact .b (by omega) | exact .w | rfl | omega)); first | done | fail) | omega | (show _ ≤ ((64 : Nat) : Int); omega)) : φ := h
theorem pv_Skc {φ : Prop} (h : φ := by constructor; (repeat exact cl_Skc); first | done | fail) : φ := h
theorem su_Skc {φ ψ : Prop} (k : ψ) (h : Hide ψ → φ := by (intro k; (first | refine sl_pu (PuI.sep (by exact pv_Skc)) rfl ?_ | refine sl_yes rfl rfl ?_ | refine sl_no rfl rfl rfl ?_ | refine sl_off rfl rfl rfl ?_ | (fail)); exact k.out)) : φ := h ⟨k⟩
theorem sto_Skc {φ ψ : Prop} (k : ψ) (h : Hide ψ → φ := by (intro k; (first | refine sl_store rfl (by exact pick_) rfl rfl (by kernel_rfl) (by exact set_Skc) ?_ | refine sl_store_whole rfl (by exact pick_) rfl (by exact sz_Skc) (by exact sz_Skc) (by exact one_Skc) ?_); exact k.out)) : φ := h ⟨k⟩
theorem go_Skc {φ ψ : Prop} (k : ψ) (h : Hide ψ → φ := by (intro k; (repeat (first | refine su_Skc ?_ | refine so_ ?_ | refine sto_Skc ?_)); exact k.out)) : φ := h ⟨k⟩
set_option maxRecDepth 100000 in
theorem fLife_ok {K : List Fa} {b c g go gj gi gb mw ms : Nat} {A : Option Addr} {t : Ta} {life : Int} {ty : TypeId} (hg : At (blk go ty [.pointer (some ⟨g, 0, none⟩)]) K) (hs : At (sB g t gj gi gb mw ms life) K) (hl : 0 ≤ life ∧ life ≤ 18446744073709551615) :
    Fn Tryz.prog 46 ([Value.pointer (some ⟨b, 0, none⟩)] ++ [Value.pointer (some ⟨go, 0, none⟩)]).toArray (wrb b A [5].length c :: u8o A c [5] :: K) (Ret (fun _ : Option Addr × Nat => True) (fun _ => .tuple #[]) (fun p => wrb b p.1 (5 :: rcLife life).length p.2 :: u8o p.1 p.2 (5 :: rcLife life) :: K)) := by
  refine fn_enter Tryz.func46 rfl _ Tryz.ntmps46 (by simp) [(0, .pointer (some ⟨b, 0, none⟩)), (1, .pointer (some ⟨go, 0, none⟩))] (args_of (by simp)) ?_
  refine go_Skc ?_
  refine sl_call rfl rfl (by kernel_rfl) rfl (by exact sub_) (wUint (b := b) (A := A) (c := c) (bs := [5]) (n := life) (k := 6) (by decide) hl.1 hl.2 (by decide)) ?_
  rintro ⟨A1, c1⟩ -
  refine go_Skc ?_
  exact se_end0 (A1, c1) trivial rfl rfl (by exact sub_)
set_option maxRecDepth 100000 in
theorem fAcc_ok {K : List Fa} {b c g3 : Nat} {A : Option Addr} {id : Id} {tm : Int} {pA sA : Option Addr} {pc sc : Nat} {p s : List Int} {ty : TypeId} (hg : At (blk g3 ty (rpC id tm (.slice pA p.length pc) (.slice sA s.length sc))) K) (ht : 0 ≤ tm ∧ tm ≤ 18446744073709551615)
    (hp : Vw K (fun w => Reads w 1 pA p.length (bytes p))) (hs : Vw K (fun w => Reads w 1 sA s.length (bytes s))) (hpl : p.length ≤ 100000) (hsl : s.length ≤ 100000) :
    Fn Tryz.prog 52 ([Value.pointer (some ⟨b, 0, none⟩)] ++ [Value.pointer (some ⟨g3, 0, none⟩)]).toArray (wrb b A [1].length c :: u8o A c [1] :: K) (Ret (fun _ : Option Addr × Nat => True) (fun _ => .tuple #[]) (fun q => wrb b q.1 (1 :: rcAcc id tm p s).length q.2 :: u8o q.1 q.2 (1 :: rcAcc id tm p s) :: K)) := by
  have hil := id.len
  have h6 : (le tm 6).length = 6 := le_len _ _
  have h4 : (le (p.length : Int) 4).length = 4 := le_len _ _
  refine fn_enter Tryz.func52 rfl _ Tryz.ntmps52 (by simp) [(0, .pointer (some ⟨b, 0, none⟩)), (1, .pointer (some ⟨g3, 0, none⟩))] (args_of (by simp)) ?_
  refine go_Skc ?_
  have hid : Vw K (fun w => Reads w 1 (some ⟨g3, 0, none⟩) 16 (bytes id.l)) := by
    have := Vw.of_blk_mid hg rpC_id
    rwa [id.len] at this
  refine sl_call rfl rfl (by kernel_rfl) rfl (by exact sub_) (wRaw (b := b) (A := A) (c := c) (bs := [1]) (xs := id.l) (m := 16) hid (by decide)) ?_
  rintro ⟨A1, c1⟩ -
  dsimp only
  refine go_Skc ?_
  refine sl_call rfl rfl (by kernel_rfl) rfl (by exact sub_) (wUint (b := b) (A := A1) (c := c1) (bs := [1] ++ id.l) (n := tm) (k := 6) (by decide) ht.1 ht.2 (by simp; omega)) ?_
  rintro ⟨A2, c2⟩ -
  dsimp only
  refine go_Skc ?_
  refine sl_call rfl rfl (by kernel_rfl) rfl (by exact sub_) (wLong (b := b) (A := A2) (c := c2) (bs := [1] ++ id.l ++ le tm 6) (xs := p) hp (by simp; omega)) ?_
  rintro ⟨A3, c3⟩ -
  dsimp only
  refine go_Skc ?_
  refine sl_call rfl rfl (by kernel_rfl) rfl (by exact sub_) (wLong (b := b) (A := A3) (c := c3) (bs := [1] ++ id.l ++ le tm 6 ++ (le p.length 4 ++ p)) (xs := s) hs (by simp; omega)) ?_
  rintro ⟨A4, c4⟩ -
  dsimp only
  refine go_Skc ?_
  rw [show [1] ++ id.l ++ le tm 6 ++ (le p.length 4 ++ p) ++ (le s.length 4 ++ s) = 1 :: rcAcc id tm p s from by simp [rcAcc]]
  exact se_end0 (A4, c4) trivial rfl rfl (by exact sub_)
end Go.Proofs.YtocaabnbmcpjmaaGreat
/- Package store: again$1: what a record's bytes say. Written by wip/tools/mkska.py. -/
namespace Go.Proofs.YtocaabnbmcpjmaaGreat
open Go.RowKit Go.MapKept
attribute [local irreducible] Go.Calls Go.Exit.then Go.Exit.inBlock Go.bodyPost Go.Code.wp Go.wpList takeL recordL hashL recL allL
/-- A record. -/
inductive Rc
  | acc (id : List Int) (t : Int) (p s : List Int)
  | com (id : List Int) (b d : List Int)
  | rej (id : List Int) (c : Int)
  | shut (s : Int)
  | life (n : Int)
def gLong (r : List Int) : Int ⊕ (List Int × List Int) :=
  if r.length < 4 then .inl 3 else if 65536 < leV (r.take 4) then .inl 4 else if r.length - 4 < (leV (r.take 4)).toNat then .inl 3
  else .inr ((r.drop 4).take (leV (r.take 4)).toNat, r.drop (4 + (leV (r.take 4)).toNat))
def dAcc4 (id : List Int) (t : Int) (p r : List Int) : Int ⊕ (Rc × Nat) := match gLong r with
  | .inl c => .inl c
  | .inr (s, r) => .inr (.acc id t p s, r.length)
def dAcc3 (id : List Int) (t : Int) (r : List Int) : Int ⊕ (Rc × Nat) := match gLong r with
  | .inl c => .inl c
  | .inr (p, r) => dAcc4 id t p r
def dAcc2 (id r : List Int) : Int ⊕ (Rc × Nat) := if r.length < 6 then .inl 3 else dAcc3 id (leV (r.take 6)) (r.drop 6)
def dAcc (r : List Int) : Int ⊕ (Rc × Nat) := if r.length < 16 then .inl 3 else dAcc2 (r.take 16) (r.drop 16)
def dCom3 (id b r : List Int) : Int ⊕ (Rc × Nat) := match gLong r with
  | .inl c => .inl c
  | .inr (d, r) => .inr (.com id b d, r.length)
def dCom2 (id r : List Int) : Int ⊕ (Rc × Nat) := match gLong r with
  | .inl c => .inl c
  | .inr (b, r) => dCom3 id b r
def dCom (r : List Int) : Int ⊕ (Rc × Nat) := if r.length < 16 then .inl 3 else dCom2 (r.take 16) (r.drop 16)
def dRej2 (id r : List Int) : Int ⊕ (Rc × Nat) := if r.length < 1 then .inl 3 else .inr (.rej id (leV (r.take 1)), (r.drop 1).length)
def dRej (r : List Int) : Int ⊕ (Rc × Nat) := if r.length < 16 then .inl 3 else dRej2 (r.take 16) (r.drop 16)
def dShut (r : List Int) : Int ⊕ (Rc × Nat) := if r.length < 6 then .inl 3 else .inr (.shut (leV (r.take 6)), (r.drop 6).length)
def dLife (r : List Int) : Int ⊕ (Rc × Nat) := if r.length < 6 then .inl 3 else .inr (.life (leV (r.take 6)), (r.drop 6).length)
def decR (bs : List Int) : Int ⊕ (Rc × Nat) :=
  if bs.length < 1 then .inl 3 else
  if leV (bs.take 1) = 1 then dAcc (bs.drop 1) else if leV (bs.take 1) = 2 then dCom (bs.drop 1) else if leV (bs.take 1) = 3 then dRej (bs.drop 1) else
  if leV (bs.take 1) = 4 then dShut (bs.drop 1) else if leV (bs.take 1) = 5 then dLife (bs.drop 1) else .inl 10
/-- What there is behind the reading: where the record's parts lie. -/
structure Ag where
  g1 : Nat
  g2 : Nat
  g3 : Nat
  A : Option Addr
  c : Nat
  B : Option Addr
  d : Nat
def doV (gs : Nat) (x : Ag) : Rc → Value
  | .acc .. => .func (.func 91) #[] #[.pointer (some ⟨gs, 0, none⟩), .pointer (some ⟨x.g1, 0, none⟩)]
  | .com .. => .func (.func 92) #[] #[.pointer (some ⟨gs, 0, none⟩), .pointer (some ⟨x.g1, 0, none⟩), .pointer (some ⟨x.g2, 0, none⟩), .pointer (some ⟨x.g3, 0, none⟩)]
  | .rej .. => .func (.func 93) #[] #[.pointer (some ⟨gs, 0, none⟩), .pointer (some ⟨x.g1, 0, none⟩), .pointer (some ⟨x.g2, 0, none⟩)]
  | .shut .. => .func (.func 94) #[] #[.pointer (some ⟨gs, 0, none⟩), .pointer (some ⟨x.g1, 0, none⟩)]
  | .life .. => .func (.func 95) #[] #[.pointer (some ⟨x.g1, 0, none⟩), .pointer (some ⟨gs, 0, none⟩)]
def doF (x : Ag) (K : List Fa) : Rc → List Fa
  | .acc id t p s => blk x.g1 49 (bytes id ++ [.int .u64 t, .slice x.A p.length x.c, .slice x.B s.length x.d]) :: u8o x.A x.c p :: u8o x.B x.d s :: K
  | .com id b d => blk x.g1 47 (bytes id) :: blk x.g2 27 [.slice x.A b.length x.c] :: blk x.g3 27 [.slice x.B d.length x.d] :: u8o x.A x.c b :: u8o x.B x.d d :: K
  | .rej id c => blk x.g1 47 (bytes id) :: blk x.g2 42 [.int .i64 c] :: K
  | .shut s => blk x.g1 36 [.int .u64 s] :: K
  | .life n => blk x.g1 36 [.int .u64 n] :: K
abbrev doB (g : Nat) (v : Value) : Fa := blk g 50 [v]
def agM (bs : List Int) (_ : Ag) : Nat := match decR bs with
  | .inl _ => 0
  | .inr (_, m) => m
def agX (bs : List Int) (_ : Ag) : Option Int := match decR bs with
  | .inl c => some c
  | .inr _ => none
def agH (gs gd : Nat) (v0 : Value) (K : List Fa) (bs : List Int) (x : Ag) : List Fa := match decR bs with
  | .inl _ => doB gd v0 :: K
  | .inr (r, _) => doB gd (doV gs x r) :: doF x K r
section
variable {P : Program} {Q : Exit → Act → World → Prop} {n : Nat} {l : Env} {L : List Fa} {fn : Func} {R : Ending → World → Prop} {c : List PanicEntry}
theorem se_end0R (hr : fn.results = #[]) (h : ∀ w, Sep w L → R (.returned (.tuple #[])) w) : SE (bodyPost P fn R) .normal n l L := by
  unfold SE
  intro w hw
  exact we_end0 hr (h w hw)
theorem se_panicR (h : ∀ w, Sep w L → R (.panicked c) w) : SE (bodyPost P fn R) (.panic c) n l L := by
  unfold SE
  intro w hw
  exact we_panic (h w hw)
end
section
variable {n : Nat} {l : Env} {L : List Fa} {fn : Func} {gs gd r : Nat} {v0 : Value} {K : List Fa} {bs : List Int} {F1 F2 : Fa} {c : Int} {s : Value} {rc : Rc} {m : Nat}
abbrev agR (gs gd : Nat) (v0 : Value) (K : List Fa) (bs : List Int) (r : Nat) (F1 F2 : Fa) : Ending → World → Prop := RdEnd (fun _ : Ag => True) (agM bs) (agX bs) (agH gs gd v0 K bs) r F1 F2
theorem ag_die (hd : decR bs = .inl c) (hs : Sub L (blk r 201 [s, .bool true] :: F1 :: F2 :: doB gd v0 :: K)) : SE (bodyPost Tryz.prog fn (agR gs gd v0 K bs r F1 F2)) (.panic (stopC c)) n l L := se_panicR fun w hw => by
  refine ⟨⟨0, 0, 0, none, 0, none, 0⟩, trivial, ?_⟩
  have h1 : agX bs ⟨0, 0, 0, none, 0, none, 0⟩ = some c := by unfold agX; rw [hd]
  rw [h1]
  refine ⟨rfl, s, ?_⟩
  unfold agH
  rw [hd]
  exact hw.sub hs
theorem ag_end (x : Ag) (hd : decR bs = .inr (rc, m)) (hr : fn.results = #[]) {A : Option Addr} {cc : Nat} (hs : Sub L (rdb r A m cc :: F1 :: F2 :: doB gd (doV gs x rc) :: doF x K rc)) : SE (bodyPost Tryz.prog fn (agR gs gd v0 K bs r F1 F2)) .normal n l L := se_end0R hr fun w hw => by
  refine ⟨x, trivial, ?_⟩
  have h1 : agX bs x = none := by unfold agX; rw [hd]
  have h2 : agM bs x = m := by unfold agM; rw [hd]
  rw [h1]
  refine ⟨rfl, A, cc, ?_⟩
  rw [h2]
  unfold agH
  rw [hd]
  exact hw.sub hs
end
theorem build_rep (id : Id) (W : World) : (Instr.build 49 #[(0, id.v)]).run Tryz.prog W = .ok (.agg (rpC id 0 (.slice none 0 0) (.slice none 0 0)).toArray) W := by
  obtain ⟨a0, a1, a2, a3, a4, a5, a6, a7, a8, a9, a10, a11, a12, a13, a14, a15, h⟩ := list16m id.len
  show (Instr.build 49 #[(0, .agg (bytes id.l).toArray)]).run Tryz.prog W = .ok (.agg (bytes id.l ++ [Value.int .u64 0, .slice none 0 0, .slice none 0 0]).toArray) W
  rw [h]
  kernel_rfl
theorem rpC_set16 {id : Id} {t v : Int} {P S : Value} : SetAt 16 (.int .u64 v) (rpC id t P S) (rpC id v P S) := SetAt.tail (k := 16) (a := bytes id.l) (i := 0) (by rw [bytes_length, id.len]) SetAt.here
theorem rpC_set17 {id : Id} {t : Int} {P S v : Value} : SetAt 17 v (rpC id t P S) (rpC id t v S) := SetAt.tail (k := 16) (a := bytes id.l) (i := 1) (by rw [bytes_length, id.len]) (SetAt.there SetAt.here)
theorem rpC_set18 {id : Id} {t : Int} {P S v : Value} : SetAt 18 v (rpC id t P S) (rpC id t P v) := SetAt.tail (k := 16) (a := bytes id.l) (i := 2) (by rw [bytes_length, id.len]) (SetAt.there (SetAt.there SetAt.here))
theorem lev1 {xs : List Int} {k : Nat} (h : IsBytes xs) (hl : xs.length = k) (hk : k ≤ 8) : 0 ≤ leV xs ∧ leV xs ≤ 18446744073709551615 := by
  obtain ⟨h1, h2⟩ := leV_lt h
  have h3 := Int.ofNat_le.2 (Nat.pow_le_pow_right (n := 2) (by decide) (show 8 * xs.length ≤ 64 by omega))
  rw [Int.natCast_pow, Int.natCast_pow] at h3
  have h4 : ((2 : Nat) : Int) ^ 64 = 18446744073709551616 := by decide
  have h5 : ((2 : Nat) : Int) = 2 := rfl
  rw [h4, h5] at h3
  omega
theorem nth_Ska {φ : Prop} (h : φ := by (first | rfl | first | rfl | exact rpC_n16 | exact rpC_n17 | exact rpC_n18)) : φ := h
theorem mid_Ska {φ : Prop} (h : φ := by (first | first | exact rpC_id | exact Mid.all | exact Mid.all | exact Mid.head)) : φ := h
theorem sz_Ska {φ : Prop} (h : φ := by (first | rfl | ((try simp only [rpC_len, bytes_length, Id.len]); (first | done | rfl); first | done | fail))) : φ := h
theorem one_Ska {φ : Prop} (h : φ := by (first | assumption | exact first | exact one_bytes _ | exact rpC_one rfl rfl | (simp only [List.mem_cons, List.not_mem_nil, or_false, forall_eq_or_imp, forall_eq]; decide) | exact one_bytes _ | (intro v hv; (repeat (rcases List.mem_cons.1 hv with rfl | hv; rfl)); cases hv))) : φ := h
theorem set_Ska {φ : Prop} (h : φ := by (first | (first | exact rpC_set16 | exact rpC_set17 | exact rpC_set18) | ((repeat (first | exact SetAt.here | apply SetAt.there)); first | done | fail))) : φ := h
theorem cl_Ska {φ : Prop} (h : φ := by first | rfl | exact .t | exact .f | exact .t (by omega) | exact .f (by omega) | exact .u | exact .i (by (first | exact .t (by omega) | exact .f (by omega) | exact .u | exact .i (by omega) | exact .v (by omega) | exact .b (by omega) | exact .w | rfl | omega)) | exact .v (by omega) | exact .b (by omega) | exact .q (by omega) | exact .w | exact .b (by exact at_) rfl (by exact nth_Ska) | exact .w (by exact at_) rfl rfl (by exact sz_Ska) | exact .s (by exact at_) (by exact mid_Ska) rfl rfl (by exact sz_Ska) | exact .z rfl rfl ⟨by kernel_rfl⟩ | exact .b rfl rfl ⟨by kernel_rfl⟩ | exact .a rfl rfl ⟨by kernel_rfl⟩ | exact .o rfl | exact .s | exact .n | exact .p rfl | exact .q rfl | exact .c rfl | exact .d rfl | exact .n rfl rfl (by omega) | exact .a rfl rfl (by omega) | exact .p rfl rfl (by omega) (by omega) | exact .y rfl rfl (by omega) (by omega) | exact .o (by exact at_) (by omega) rfl (by exact nth_Ska) | exact .m (by exact at_) (by omega) (by exact mid_Ska) rfl rfl (by exact sz_Ska) | exact .mlen (by exact at_) rfl | exact .t (by exact at_) rfl rfl (by first | exact True.intro | rfl) (by assumption) | exact .f (by exact at_) rfl rfl (by first | exact True.intro | rfl) (by assumption) rfl | exact .t1 (by exact at_) rfl rfl (by first | exact True.intro | rfl) (by assumption) | exact .f1 (by exact at_) rfl rfl (by first | exact True.intro | rfl) (by assumption) rfl | exact .tk (by exact at_) rfl (by assumption) (by assumption) | exact .fk (by exact at_) rfl (by assumption) (by assumption) rfl | exact .tk1 (by exact at_) rfl (by assumption) (by assumption) | exact .fk1 (by exact at_) rfl (by assumption) (by assumption) rfl | exact .r rfl rfl (by omega) (by omega) (by exact nth_Ska) rfl | exact .s rfl (by omega) (by assumption) | exact at_ | assumption | exact .r rfl rfl | exact .h rfl rfl rfl (by omega) | exact .l rfl rfl rfl (by omega) (by omega) | exact .g rfl rfl rfl rfl (by omega) (by omega) | exact .h rfl rfl (toN_ (by omega)) (by omega) | exact .l rfl rfl (toN_ (by omega)) (by omega) (by omega) | exact .g rfl rfl (toN_ (by omega)) (toN_ (by omega)) (by omega) (by omega) | exact .o (by decide) | exact .f (by decide) | exact .n (by omega) (by first | decide | (show _ ≤ ((64 : Nat) : Int); omega)) | (constructor; (repeat (first | exact .t (by omega) | exact .f (by omega) | exact .u | exact .i (by omega) | exact .v (by omega) | exact .b (by omega) | exact .w | rfl | omega)); first | done | fail) | omega | (show _ ≤ ((64 : Nat) : Int); omega)) : φ := h
theorem pv_Ska {φ : Prop} (h : φ := by constructor; (repeat exact cl_Ska); first | done | fail) : φ := h
theorem su_Ska {φ ψ : Prop} (k : ψ) (h : Hide ψ → φ := by (intro k; (first | refine sl_pu (PuI.sep (by exact pv_Ska)) rfl ?_ | refine sl_yes rfl rfl ?_ | refine sl_no rfl rfl rfl ?_ | refine sl_off rfl rfl rfl ?_ | (fail)); exact k.out)) : φ := h ⟨k⟩
theorem sto_Ska {φ ψ : Prop} (k : ψ) (h : Hide ψ → φ := by (intro k; (first | refine sl_store rfl (by exact pick_) rfl rfl (by kernel_rfl) (by exact set_Ska) ?_ | refine sl_store_whole rfl (by exact pick_) rfl (by exact sz_Ska) (by exact sz_Ska) (by exact one_Ska) ?_); exact k.out)) : φ := h ⟨k⟩
theorem go_Ska {φ ψ : Prop} (k : ψ) (h : Hide ψ → φ := by (intro k; (repeat (first | refine su_Ska ?_ | refine so_ ?_ | refine sto_Ska ?_)); exact k.out)) : φ := h ⟨k⟩
set_option maxRecDepth 100000 in
set_option maxHeartbeats 16000000 in
theorem agf_ok {K Z : List Fa} {r gs gd n c : Nat} {A : Option Addr} {bs : List Int} {v0 : Value} {F1 F2 : Fa} (hz : Sub K Z) (h : Rd Z A n c bs) :
    Fn Tryz.prog 87 (#[.pointer (some ⟨r, 0, none⟩)] ++ #[.pointer (some ⟨gs, 0, none⟩), .pointer (some ⟨gd, 0, none⟩)]) (rdb r A n c :: F1 :: F2 :: doB gd v0 :: K) (agR gs gd v0 K bs r F1 F2) := by
  have hz3 : Sub (F1 :: F2 :: doB gd v0 :: K) Z := Sub.skip (Sub.skip (Sub.skip hz))
  have hbl := h.len
  refine fn_enter Tryz.func87 rfl _ Tryz.ntmps87 (by simp) [(0, .pointer (some ⟨r, 0, none⟩)), (1, .pointer (some ⟨gs, 0, none⟩)), (2, .pointer (some ⟨gd, 0, none⟩))] (args_of (by simp)) ?_
  refine go_Ska ?_
  by_cases e0 : n < 1
  · have hd : decR bs = .inl 3 := by unfold decR; rw [if_pos (by omega)]
    refine sl_die rfl rfl (by kernel_rfl) (by exact sub_) (rUint_die (k := 1) (by decide) e0) ?_
    rintro _ -
    refine go_Ska ?_
    exact ag_die hd (by exact sub_)
  refine sl_call rfl rfl (by kernel_rfl) rfl Sub.refl (rUint (k := 1) hz3 h (by decide) (by omega)) ?_
  rintro q1 h1
  have hd0 : decR bs = if leV (bs.take 1) = 1 then dAcc (bs.drop 1) else if leV (bs.take 1) = 2 then dCom (bs.drop 1) else if leV (bs.take 1) = 3 then dRej (bs.drop 1) else
      if leV (bs.take 1) = 4 then dShut (bs.drop 1) else if leV (bs.take 1) = 5 then dLife (bs.drop 1) else .inl 10 := by unfold decR; rw [if_neg (by omega)]
  generalize leV (bs.take 1) = kk at hd0 ⊢
  generalize bs.drop 1 = r1 at hd0 h1
  have l1 := h1.len
  obtain ⟨rq1, hrq⟩ : ∃ x, x = r1 := ⟨_, rfl⟩
  rw [← hrq] at h1 hd0
  clear hrq l1
  by_cases k1 : kk = 1
  · subst k1
    rw [if_pos rfl] at hd0
    refine go_Ska ?_
    have lq1 := h1.len
    by_cases eq1 : q1.n < 16
    · have hdx : decR bs = .inl 3 := by rw [hd0]; unfold dAcc; rw [if_pos (by omega)]
      refine sl_die rfl rfl (by kernel_rfl) (by exact sub_) (rId_die eq1) ?_
      rintro _ -
      refine go_Ska ?_
      exact ag_die hdx (by exact sub_)
    refine sl_call rfl rfl (by kernel_rfl) rfl (by exact sub_) (rId (by repeat (first | exact hz3 | exact hz | apply Sub.skip)) h1 (by omega) ⟨rq1.take 16, by rw [List.length_take]; omega, h1.okb.take 16⟩ rfl) ?_
    rintro q2 h2
    have hd1 : decR bs = dAcc2 (rq1.take 16) (rq1.drop 16) := by rw [hd0]; unfold dAcc; rw [if_neg (by omega)]
    obtain ⟨id, hid⟩ : ∃ id : Id, id = ⟨rq1.take 16, by rw [List.length_take]; omega, h1.okb.take 16⟩ := ⟨_, rfl⟩
    rw [← hid]
    have hid2 : rq1.take 16 = id.l := by rw [hid]
    rw [hid2] at hd1
    generalize rq1.drop 16 = rq2 at hd1 h2
    refine sl_pu (pu_build (v := .agg (rpC id 0 (.slice none 0 0) (.slice none 0 0)).toArray) rfl (build_rep id)) rfl ?_
    refine sl_alloc rfl rfl rfl ?_; intro g4
    refine sl_store_whole (cl := rpC id 0 (.slice none 0 0) (.slice none 0 0)) rfl (by exact pick_) rfl (by rw [rpC_len]; rfl) (by rw [rpC_len]; rfl) (rpC_one rfl rfl) ?_
    refine go_Ska ?_
    have lq2 := h2.len
    by_cases eq2 : q2.n < 6
    · have hdx : decR bs = .inl 3 := by rw [hd1]; unfold dAcc2; rw [if_pos (by omega)]
      refine sl_die rfl rfl (by kernel_rfl) (by exact sub_) (rUint_die (k := 6) (by decide) eq2) ?_
      rintro _ -
      refine go_Ska ?_
      exact ag_die hdx (by exact sub_)
    refine sl_call rfl rfl (by kernel_rfl) rfl (by exact sub_) (rUint (k := 6) (by repeat (first | exact hz3 | exact hz | apply Sub.skip)) h2 (by decide) (by omega)) ?_
    rintro q3 h3
    have hd2 : decR bs = dAcc3 id.l (leV (rq2.take 6)) (rq2.drop 6) := by rw [hd1]; unfold dAcc2; rw [if_neg (by omega)]
    have hvq2 := lev1 (h2.okb.take 6) (k := 6) (by rw [List.length_take]; omega) (by decide)
    generalize leV (rq2.take 6) = tm at hd2 hvq2 ⊢
    generalize rq2.drop 6 = rq3 at hd2 h3
    refine go_Ska ?_
    have lq3 := h3.len
    by_cases eq3 : q3.n < 4
    · have hdx : decR bs = .inl 3 := by rw [hd2]; unfold dAcc3 gLong; rw [if_pos (by omega)]
      refine sl_die rfl rfl (by kernel_rfl) (by exact sub_) (rLong_die (m := 65536) eq3) ?_
      rintro _ -
      refine go_Ska ?_
      exact ag_die hdx (by exact sub_)
    obtain ⟨kq3, hkq3⟩ : ∃ k : Nat, leV (rq3.take 4) = k := ⟨(leV (rq3.take 4)).toNat, by have := (leV_lt (h3.okb.take 4)).1; omega⟩
    by_cases fq3 : 65536 < kq3
    · have hdx : decR bs = .inl 4 := by rw [hd2]; unfold dAcc3 gLong; rw [if_neg (by omega), hkq3, if_pos (by omega)]
      refine sl_die rfl rfl (by kernel_rfl) (by exact sub_) (rLong_die4 (m := 65536) (by repeat (first | exact hz3 | exact hz | apply Sub.skip)) h3 (by omega) hkq3 fq3 (by decide)) ?_
      rintro _ -
      refine go_Ska ?_
      exact ag_die hdx (by exact sub_)
    by_cases iq3 : q3.n - 4 < kq3
    · have hdx : decR bs = .inl 3 := by rw [hd2]; unfold dAcc3 gLong; rw [if_neg (by omega), hkq3, if_neg (by omega), if_pos (by rw [Int.toNat_natCast]; omega)]
      refine sl_die rfl rfl (by kernel_rfl) (by exact sub_) (rLong_die3 (m := 65536) (by repeat (first | exact hz3 | exact hz | apply Sub.skip)) h3 (by omega) hkq3 (by omega) iq3 (by decide)) ?_
      rintro _ -
      refine go_Ska ?_
      exact ag_die hdx (by exact sub_)
    refine sl_call rfl rfl (by kernel_rfl) rfl (by exact sub_) (rLong (m := 65536) (by repeat (first | exact hz3 | exact hz | apply Sub.skip)) h3 (by omega) hkq3 (by omega) (by omega) (by decide)) ?_
    rintro ⟨⟨A1, c1⟩, q4⟩ h4
    dsimp only at h4 ⊢
    have hd3 : decR bs = dAcc4 id.l tm ((rq3.drop 4).take kq3) (rq3.drop (4 + kq3)) := by rw [hd2]; unfold dAcc3 gLong; rw [if_neg (by omega), hkq3, if_neg (by omega), if_neg (by rw [Int.toNat_natCast]; omega)]; dsimp only; rw [Int.toNat_natCast]
    generalize rq3.drop (4 + kq3) = rq4 at hd3 h4
    generalize hps : (rq3.drop 4).take kq3 = ps at hd3 ⊢
    have psl : ps.length = kq3 := by rw [← hps, List.length_take, List.length_drop]; omega
    clear hps
    subst psl
    refine go_Ska ?_
    have lq4 := h4.len
    by_cases eq4 : q4.n < 4
    · have hdx : decR bs = .inl 3 := by rw [hd3]; unfold dAcc4 gLong; rw [if_pos (by omega)]
      refine sl_die rfl rfl (by kernel_rfl) (by exact sub_) (rLong_die (m := 65536) eq4) ?_
      rintro _ -
      refine go_Ska ?_
      exact ag_die hdx (by exact sub_)
    obtain ⟨kq4, hkq4⟩ : ∃ k : Nat, leV (rq4.take 4) = k := ⟨(leV (rq4.take 4)).toNat, by have := (leV_lt (h4.okb.take 4)).1; omega⟩
    by_cases fq4 : 65536 < kq4
    · have hdx : decR bs = .inl 4 := by rw [hd3]; unfold dAcc4 gLong; rw [if_neg (by omega), hkq4, if_pos (by omega)]
      refine sl_die rfl rfl (by kernel_rfl) (by exact sub_) (rLong_die4 (m := 65536) (by repeat (first | exact hz3 | exact hz | apply Sub.skip)) h4 (by omega) hkq4 fq4 (by decide)) ?_
      rintro _ -
      refine go_Ska ?_
      exact ag_die hdx (by exact sub_)
    by_cases iq4 : q4.n - 4 < kq4
    · have hdx : decR bs = .inl 3 := by rw [hd3]; unfold dAcc4 gLong; rw [if_neg (by omega), hkq4, if_neg (by omega), if_pos (by rw [Int.toNat_natCast]; omega)]
      refine sl_die rfl rfl (by kernel_rfl) (by exact sub_) (rLong_die3 (m := 65536) (by repeat (first | exact hz3 | exact hz | apply Sub.skip)) h4 (by omega) hkq4 (by omega) iq4 (by decide)) ?_
      rintro _ -
      refine go_Ska ?_
      exact ag_die hdx (by exact sub_)
    refine sl_call rfl rfl (by kernel_rfl) rfl (by exact sub_) (rLong (m := 65536) (by repeat (first | exact hz3 | exact hz | apply Sub.skip)) h4 (by omega) hkq4 (by omega) (by omega) (by decide)) ?_
    rintro ⟨⟨A2, c2⟩, q5⟩ h5
    dsimp only at h5 ⊢
    have hd4 : decR bs = .inr (.acc id.l tm ps ((rq4.drop 4).take kq4), (rq4.drop (4 + kq4)).length) := by rw [hd3]; unfold dAcc4 gLong; rw [if_neg (by omega), hkq4, if_neg (by omega), if_neg (by rw [Int.toNat_natCast]; omega)]; dsimp only; rw [Int.toNat_natCast]
    generalize rq4.drop (4 + kq4) = rq5 at hd4 h5
    generalize hss : (rq4.drop 4).take kq4 = ss at hd4 ⊢
    have ssl : ss.length = kq4 := by rw [← hss, List.length_take, List.length_drop]; omega
    clear hss
    subst ssl
    refine go_Ska ?_
    have l5 := h5.len
    rw [l5] at hd4
    exact ag_end ⟨g4, 0, 0, A1, c1, A2, c2⟩ hd4 rfl (A := q5.A) (cc := q5.c) (by exact sub_)
  rw [if_neg k1] at hd0
  by_cases k2 : kk = 2
  · subst k2
    rw [if_pos rfl] at hd0
    refine go_Ska ?_
    have lq1 := h1.len
    by_cases eq1 : q1.n < 16
    · have hdx : decR bs = .inl 3 := by rw [hd0]; unfold dCom; rw [if_pos (by omega)]
      refine sl_die rfl rfl (by kernel_rfl) (by exact sub_) (rId_die eq1) ?_
      rintro _ -
      refine go_Ska ?_
      exact ag_die hdx (by exact sub_)
    refine sl_call rfl rfl (by kernel_rfl) rfl (by exact sub_) (rId (by repeat (first | exact hz3 | exact hz | apply Sub.skip)) h1 (by omega) ⟨rq1.take 16, by rw [List.length_take]; omega, h1.okb.take 16⟩ rfl) ?_
    rintro q2 h2
    have hd1 : decR bs = dCom2 (rq1.take 16) (rq1.drop 16) := by rw [hd0]; unfold dCom; rw [if_neg (by omega)]
    obtain ⟨id, hid⟩ : ∃ id : Id, id = ⟨rq1.take 16, by rw [List.length_take]; omega, h1.okb.take 16⟩ := ⟨_, rfl⟩
    rw [← hid]
    have hid2 : rq1.take 16 = id.l := by rw [hid]
    rw [hid2] at hd1
    generalize rq1.drop 16 = rq2 at hd1 h2
    refine go_Ska ?_
    refine sl_alloc rfl rfl rfl ?_; intro g5
    refine sl_store_whole (cl := bytes id.l) rfl (by exact pick_) rfl (by rw [bytes_length, id.len]; rfl) (by rw [bytes_length, id.len]; rfl) (one_bytes _) ?_
    refine go_Ska ?_
    have lq2 := h2.len
    by_cases eq2 : q2.n < 4
    · have hdx : decR bs = .inl 3 := by rw [hd1]; unfold dCom2 gLong; rw [if_pos (by omega)]
      refine sl_die rfl rfl (by kernel_rfl) (by exact sub_) (rLong_die (m := 65536) eq2) ?_
      rintro _ -
      refine go_Ska ?_
      exact ag_die hdx (by exact sub_)
    obtain ⟨kq2, hkq2⟩ : ∃ k : Nat, leV (rq2.take 4) = k := ⟨(leV (rq2.take 4)).toNat, by have := (leV_lt (h2.okb.take 4)).1; omega⟩
    by_cases fq2 : 65536 < kq2
    · have hdx : decR bs = .inl 4 := by rw [hd1]; unfold dCom2 gLong; rw [if_neg (by omega), hkq2, if_pos (by omega)]
      refine sl_die rfl rfl (by kernel_rfl) (by exact sub_) (rLong_die4 (m := 65536) (by repeat (first | exact hz3 | exact hz | apply Sub.skip)) h2 (by omega) hkq2 fq2 (by decide)) ?_
      rintro _ -
      refine go_Ska ?_
      exact ag_die hdx (by exact sub_)
    by_cases iq2 : q2.n - 4 < kq2
    · have hdx : decR bs = .inl 3 := by rw [hd1]; unfold dCom2 gLong; rw [if_neg (by omega), hkq2, if_neg (by omega), if_pos (by rw [Int.toNat_natCast]; omega)]
      refine sl_die rfl rfl (by kernel_rfl) (by exact sub_) (rLong_die3 (m := 65536) (by repeat (first | exact hz3 | exact hz | apply Sub.skip)) h2 (by omega) hkq2 (by omega) iq2 (by decide)) ?_
      rintro _ -
      refine go_Ska ?_
      exact ag_die hdx (by exact sub_)
    refine sl_call rfl rfl (by kernel_rfl) rfl (by exact sub_) (rLong (m := 65536) (by repeat (first | exact hz3 | exact hz | apply Sub.skip)) h2 (by omega) hkq2 (by omega) (by omega) (by decide)) ?_
    rintro ⟨⟨A1, c1⟩, q3⟩ h3
    dsimp only at h3 ⊢
    have hd2 : decR bs = dCom3 id.l ((rq2.drop 4).take kq2) (rq2.drop (4 + kq2)) := by rw [hd1]; unfold dCom2 gLong; rw [if_neg (by omega), hkq2, if_neg (by omega), if_neg (by rw [Int.toNat_natCast]; omega)]; dsimp only; rw [Int.toNat_natCast]
    generalize rq2.drop (4 + kq2) = rq3 at hd2 h3
    generalize hps : (rq2.drop 4).take kq2 = ps at hd2 ⊢
    have psl : ps.length = kq2 := by rw [← hps, List.length_take, List.length_drop]; omega
    clear hps
    subst psl
    refine go_Ska ?_
    refine sl_alloc rfl rfl rfl ?_; intro g6
    refine go_Ska ?_
    have lq3 := h3.len
    by_cases eq3 : q3.n < 4
    · have hdx : decR bs = .inl 3 := by rw [hd2]; unfold dCom3 gLong; rw [if_pos (by omega)]
      refine sl_die rfl rfl (by kernel_rfl) (by exact sub_) (rLong_die (m := 65536) eq3) ?_
      rintro _ -
      refine go_Ska ?_
      exact ag_die hdx (by exact sub_)
    obtain ⟨kq3, hkq3⟩ : ∃ k : Nat, leV (rq3.take 4) = k := ⟨(leV (rq3.take 4)).toNat, by have := (leV_lt (h3.okb.take 4)).1; omega⟩
    by_cases fq3 : 65536 < kq3
    · have hdx : decR bs = .inl 4 := by rw [hd2]; unfold dCom3 gLong; rw [if_neg (by omega), hkq3, if_pos (by omega)]
      refine sl_die rfl rfl (by kernel_rfl) (by exact sub_) (rLong_die4 (m := 65536) (by repeat (first | exact hz3 | exact hz | apply Sub.skip)) h3 (by omega) hkq3 fq3 (by decide)) ?_
      rintro _ -
      refine go_Ska ?_
      exact ag_die hdx (by exact sub_)
    by_cases iq3 : q3.n - 4 < kq3
    · have hdx : decR bs = .inl 3 := by rw [hd2]; unfold dCom3 gLong; rw [if_neg (by omega), hkq3, if_neg (by omega), if_pos (by rw [Int.toNat_natCast]; omega)]
      refine sl_die rfl rfl (by kernel_rfl) (by exact sub_) (rLong_die3 (m := 65536) (by repeat (first | exact hz3 | exact hz | apply Sub.skip)) h3 (by omega) hkq3 (by omega) iq3 (by decide)) ?_
      rintro _ -
      refine go_Ska ?_
      exact ag_die hdx (by exact sub_)
    refine sl_call rfl rfl (by kernel_rfl) rfl (by exact sub_) (rLong (m := 65536) (by repeat (first | exact hz3 | exact hz | apply Sub.skip)) h3 (by omega) hkq3 (by omega) (by omega) (by decide)) ?_
    rintro ⟨⟨A2, c2⟩, q4⟩ h4
    dsimp only at h4 ⊢
    have hd3 : decR bs = .inr (.com id.l ps ((rq3.drop 4).take kq3), (rq3.drop (4 + kq3)).length) := by rw [hd2]; unfold dCom3 gLong; rw [if_neg (by omega), hkq3, if_neg (by omega), if_neg (by rw [Int.toNat_natCast]; omega)]; dsimp only; rw [Int.toNat_natCast]
    generalize rq3.drop (4 + kq3) = rq4 at hd3 h4
    generalize hss : (rq3.drop 4).take kq3 = ss at hd3 ⊢
    have ssl : ss.length = kq3 := by rw [← hss, List.length_take, List.length_drop]; omega
    clear hss
    subst ssl
    refine go_Ska ?_
    refine sl_alloc rfl rfl rfl ?_; intro g7
    refine go_Ska ?_
    have l4 := h4.len
    rw [l4] at hd3
    exact ag_end ⟨g5, g6, g7, A1, c1, A2, c2⟩ hd3 rfl (A := q4.A) (cc := q4.c) (by exact sub_)
  rw [if_neg k2] at hd0
  by_cases k3 : kk = 3
  · subst k3
    rw [if_pos rfl] at hd0
    refine go_Ska ?_
    have lq1 := h1.len
    by_cases eq1 : q1.n < 16
    · have hdx : decR bs = .inl 3 := by rw [hd0]; unfold dRej; rw [if_pos (by omega)]
      refine sl_die rfl rfl (by kernel_rfl) (by exact sub_) (rId_die eq1) ?_
      rintro _ -
      refine go_Ska ?_
      exact ag_die hdx (by exact sub_)
    refine sl_call rfl rfl (by kernel_rfl) rfl (by exact sub_) (rId (by repeat (first | exact hz3 | exact hz | apply Sub.skip)) h1 (by omega) ⟨rq1.take 16, by rw [List.length_take]; omega, h1.okb.take 16⟩ rfl) ?_
    rintro q2 h2
    have hd1 : decR bs = dRej2 (rq1.take 16) (rq1.drop 16) := by rw [hd0]; unfold dRej; rw [if_neg (by omega)]
    obtain ⟨id, hid⟩ : ∃ id : Id, id = ⟨rq1.take 16, by rw [List.length_take]; omega, h1.okb.take 16⟩ := ⟨_, rfl⟩
    rw [← hid]
    have hid2 : rq1.take 16 = id.l := by rw [hid]
    rw [hid2] at hd1
    generalize rq1.drop 16 = rq2 at hd1 h2
    refine go_Ska ?_
    refine sl_alloc rfl rfl rfl ?_; intro g8
    refine sl_store_whole (cl := bytes id.l) rfl (by exact pick_) rfl (by rw [bytes_length, id.len]; rfl) (by rw [bytes_length, id.len]; rfl) (one_bytes _) ?_
    refine go_Ska ?_
    have h256 : q2.n < 1 ∨ leV (rq2.take 1) < 256 := by
      by_cases hq2 : q2.n < 1
      · exact .inl hq2
      · have h8 := (leV_lt (h2.okb.take 1)).2
        have l2 := h2.len
        have l3 : (rq2.take 1).length = 1 := by rw [List.length_take]; omega
        rw [l3] at h8
        exact .inr h8
    have lq2 := h2.len
    by_cases eq2 : q2.n < 1
    · have hdx : decR bs = .inl 3 := by rw [hd1]; unfold dRej2; rw [if_pos (by omega)]
      refine sl_die rfl rfl (by kernel_rfl) (by exact sub_) (rUint_die (k := 1) (by decide) eq2) ?_
      rintro _ -
      refine go_Ska ?_
      exact ag_die hdx (by exact sub_)
    refine sl_call rfl rfl (by kernel_rfl) rfl (by exact sub_) (rUint (k := 1) (by repeat (first | exact hz3 | exact hz | apply Sub.skip)) h2 (by decide) (by omega)) ?_
    rintro q3 h3
    have hd2 : decR bs = .inr (.rej id.l (leV (rq2.take 1)), (rq2.drop 1).length) := by rw [hd1]; unfold dRej2; rw [if_neg (by omega)]
    have hvq2 := lev1 (h2.okb.take 1) (k := 1) (by rw [List.length_take]; omega) (by decide)
    generalize leV (rq2.take 1) = cc at hd2 hvq2 h256 ⊢
    generalize rq2.drop 1 = rq3 at hd2 h3
    refine go_Ska ?_
    refine sl_alloc rfl rfl rfl ?_; intro g9
    refine go_Ska ?_
    have l3 := h3.len
    rw [l3] at hd2
    exact ag_end ⟨g8, g9, 0, none, 0, none, 0⟩ hd2 rfl (A := q3.A) (cc := q3.c) (by exact sub_)
  rw [if_neg k3] at hd0
  by_cases k4 : kk = 4
  · subst k4
    rw [if_pos rfl] at hd0
    refine go_Ska ?_
    have lq1 := h1.len
    by_cases eq1 : q1.n < 6
    · have hdx : decR bs = .inl 3 := by rw [hd0]; unfold dShut; rw [if_pos (by omega)]
      refine sl_die rfl rfl (by kernel_rfl) (by exact sub_) (rUint_die (k := 6) (by decide) eq1) ?_
      rintro _ -
      refine go_Ska ?_
      exact ag_die hdx (by exact sub_)
    refine sl_call rfl rfl (by kernel_rfl) rfl (by exact sub_) (rUint (k := 6) (by repeat (first | exact hz3 | exact hz | apply Sub.skip)) h1 (by decide) (by omega)) ?_
    rintro q2 h2
    have hd1 : decR bs = .inr (.shut (leV (rq1.take 6)), (rq1.drop 6).length) := by rw [hd0]; unfold dShut; rw [if_neg (by omega)]
    have hvq1 := lev1 (h1.okb.take 6) (k := 6) (by rw [List.length_take]; omega) (by decide)
    generalize leV (rq1.take 6) = vv at hd1 hvq1 ⊢
    generalize rq1.drop 6 = rq2 at hd1 h2
    refine go_Ska ?_
    refine sl_alloc rfl rfl rfl ?_; intro g9
    refine go_Ska ?_
    have l2 := h2.len
    rw [l2] at hd1
    exact ag_end ⟨g9, 0, 0, none, 0, none, 0⟩ hd1 rfl (A := q2.A) (cc := q2.c) (by exact sub_)
  rw [if_neg k4] at hd0
  by_cases k5 : kk = 5
  · subst k5
    rw [if_pos rfl] at hd0
    refine go_Ska ?_
    have lq1 := h1.len
    by_cases eq1 : q1.n < 6
    · have hdx : decR bs = .inl 3 := by rw [hd0]; unfold dLife; rw [if_pos (by omega)]
      refine sl_die rfl rfl (by kernel_rfl) (by exact sub_) (rUint_die (k := 6) (by decide) eq1) ?_
      rintro _ -
      refine go_Ska ?_
      exact ag_die hdx (by exact sub_)
    refine sl_call rfl rfl (by kernel_rfl) rfl (by exact sub_) (rUint (k := 6) (by repeat (first | exact hz3 | exact hz | apply Sub.skip)) h1 (by decide) (by omega)) ?_
    rintro q2 h2
    have hd1 : decR bs = .inr (.life (leV (rq1.take 6)), (rq1.drop 6).length) := by rw [hd0]; unfold dLife; rw [if_neg (by omega)]
    have hvq1 := lev1 (h1.okb.take 6) (k := 6) (by rw [List.length_take]; omega) (by decide)
    generalize leV (rq1.take 6) = vv at hd1 hvq1 ⊢
    generalize rq1.drop 6 = rq2 at hd1 h2
    refine go_Ska ?_
    refine sl_alloc rfl rfl rfl ?_; intro g9
    refine go_Ska ?_
    have l2 := h2.len
    rw [l2] at hd1
    exact ag_end ⟨g9, 0, 0, none, 0, none, 0⟩ hd1 rfl (A := q2.A) (cc := q2.c) (by exact sub_)
  rw [if_neg k5] at hd0
  refine go_Ska ?_
  refine sl_die rfl rfl (by kernel_rfl) (by exact sub_) (rFail (c := 10) (by decide)) ?_
  rintro _ -
  refine go_Ska ?_
  exact ag_die hd0 (by exact sub_)
end Go.Proofs.YtocaabnbmcpjmaaGreat
/- Package store: again: a record is read, and done. -/
namespace Go.Proofs.YtocaabnbmcpjmaaGreat
open Go.RowKit Go.MapKept
attribute [local irreducible] Go.Calls Go.Exit.then Go.Exit.inBlock Go.bodyPost Go.Code.wp Go.wpList takeL recordL hashL recL allL decR
def doId : Rc → Nat
  | .acc .. => 91
  | .com .. => 92
  | .rej .. => 93
  | .shut .. => 94
  | .life .. => 95
def doCaps (gs : Nat) (x : Ag) : Rc → List Value
  | .acc .. => [.pointer (some ⟨gs, 0, none⟩), .pointer (some ⟨x.g1, 0, none⟩)]
  | .com .. => [.pointer (some ⟨gs, 0, none⟩), .pointer (some ⟨x.g1, 0, none⟩), .pointer (some ⟨x.g2, 0, none⟩), .pointer (some ⟨x.g3, 0, none⟩)]
  | .rej .. => [.pointer (some ⟨gs, 0, none⟩), .pointer (some ⟨x.g1, 0, none⟩), .pointer (some ⟨x.g2, 0, none⟩)]
  | .shut .. => [.pointer (some ⟨gs, 0, none⟩), .pointer (some ⟨x.g1, 0, none⟩)]
  | .life .. => [.pointer (some ⟨x.g1, 0, none⟩), .pointer (some ⟨gs, 0, none⟩)]
theorem doV_eq (gs : Nat) (x : Ag) (r : Rc) : doV gs x r = .func (.func (doId r)) #[] (doCaps gs x r).toArray := by cases r <;> rfl
theorem doId_call (r : Rc) : callable Tryz.prog (doId r) = true := by
  cases r
  · show callable Tryz.prog 91 = true
    kernel_rfl
  · show callable Tryz.prog 92 = true
    kernel_rfl
  · show callable Tryz.prog 93 = true
    kernel_rfl
  · show callable Tryz.prog 94 = true
    kernel_rfl
  · show callable Tryz.prog 95 = true
    kernel_rfl
theorem again1_call : ∀ args w, (callFunc 87 args).run Tryz.prog w = .ok (.enter 87 args) w := fun args w => by kernel_rfl
abbrev goB (go g : Nat) : Fa := blk go 41 [.pointer (some ⟨g, 0, none⟩)]
/-- The reading. -/
theorem aread_ok {K Z : List Fa} {gs gd n c : Nat} {A : Option Addr} {bs : List Int} {v0 : Value} (hz : Sub K Z) (h : Rd Z A n c bs) :
    Fn Tryz.prog 86 #[.slice A n c, .func (.func 87) #[] #[.pointer (some ⟨gs, 0, none⟩), .pointer (some ⟨gd, 0, none⟩)]] (doB gd v0 :: K)
      (Ret (fun _ : Ag => True) (fun x => .int .i64 (rdCode (agM bs x) (agX bs x))) (agH gs gd v0 K bs)) :=
  read_fn again1_call (fun r F1 F2 => (agf_ok (F1 := F1) (F2 := F2) (v0 := v0) hz h))
theorem nth_Skg {φ : Prop} (h : φ := by (first | rfl | rfl)) : φ := h
theorem mid_Skg {φ : Prop} (h : φ := by (first | exact Mid.all | exact Mid.all | exact Mid.head)) : φ := h
theorem sz_Skg {φ : Prop} (h : φ := by (first | rfl | (rfl; first | done | fail))) : φ := h
theorem one_Skg {φ : Prop} (h : φ := by (first | assumption | exact one_bytes _ | (simp only [List.mem_cons, List.not_mem_nil, or_false, forall_eq_or_imp, forall_eq]; decide) | exact one_bytes _ | (intro v hv; (repeat (rcases List.mem_cons.1 hv with rfl | hv; rfl)); cases hv))) : φ := h
theorem set_Skg {φ : Prop} (h : φ := by (first | (fail) | ((repeat (first | exact SetAt.here | apply SetAt.there)); first | done | fail))) : φ := h
theorem cl_Skg {φ : Prop} (h : φ := by first | rfl | exact .t | exact .f | exact .t (by omega) | exact .f (by omega) | exact .u | exact .i (by (first | exact .t (by omega) | exact .f (by omega) | exact .u | exact .i (by omega) | exact .v (by omega) | exact .b (by omega) | exact .w | rfl | omega)) | exact .v (by omega) | exact .b (by omega) | exact .q (by omega) | exact .w | exact .b (by exact at_) rfl (by exact nth_Skg) | exact .w (by exact at_) rfl rfl (by exact sz_Skg) | exact .s (by exact at_) (by exact mid_Skg) rfl rfl (by exact sz_Skg) | exact .z rfl rfl ⟨by kernel_rfl⟩ | exact .b rfl rfl ⟨by kernel_rfl⟩ | exact .a rfl rfl ⟨by kernel_rfl⟩ | exact .o rfl | exact .s | exact .n | exact .p rfl | exact .q rfl | exact .c rfl | exact .d rfl | exact .n rfl rfl (by omega) | exact .a rfl rfl (by omega) | exact .p rfl rfl (by omega) (by omega) | exact .y rfl rfl (by omega) (by omega) | exact .o (by exact at_) (by omega) rfl (by exact nth_Skg) | exact .m (by exact at_) (by omega) (by exact mid_Skg) rfl rfl (by exact sz_Skg) | exact .mlen (by exact at_) rfl | exact .t (by exact at_) rfl rfl (by first | exact True.intro | rfl) (by assumption) | exact .f (by exact at_) rfl rfl (by first | exact True.intro | rfl) (by assumption) rfl | exact .t1 (by exact at_) rfl rfl (by first | exact True.intro | rfl) (by assumption) | exact .f1 (by exact at_) rfl rfl (by first | exact True.intro | rfl) (by assumption) rfl | exact .tk (by exact at_) rfl (by assumption) (by assumption) | exact .fk (by exact at_) rfl (by assumption) (by assumption) rfl | exact .tk1 (by exact at_) rfl (by assumption) (by assumption) | exact .fk1 (by exact at_) rfl (by assumption) (by assumption) rfl | exact .r rfl rfl (by omega) (by omega) (by exact nth_Skg) rfl | exact .s rfl (by omega) (by assumption) | exact at_ | assumption | exact .r rfl rfl | exact .h rfl rfl rfl (by omega) | exact .l rfl rfl rfl (by omega) (by omega) | exact .g rfl rfl rfl rfl (by omega) (by omega) | exact .h rfl rfl (toN_ (by omega)) (by omega) | exact .l rfl rfl (toN_ (by omega)) (by omega) (by omega) | exact .g rfl rfl (toN_ (by omega)) (toN_ (by omega)) (by omega) (by omega) | exact .o (by decide) | exact .f (by decide) | exact .n (by omega) (by first | decide | (show _ ≤ ((64 : Nat) : Int); omega)) | (constructor; (repeat (first | exact .t (by omega) | exact .f (by omega) | exact .u | exact .i (by omega) | exact .v (by omega) | exact .b (by omega) | exact .w | rfl | omega)); first | done | fail) | omega | (show _ ≤ ((64 : Nat) : Int); omega)) : φ := h
theorem pv_Skg {φ : Prop} (h : φ := by constructor; (repeat exact cl_Skg); first | done | fail) : φ := h
theorem su_Skg {φ ψ : Prop} (k : ψ) (h : Hide ψ → φ := by (intro k; (first | refine sl_pu (PuI.sep (by exact pv_Skg)) rfl ?_ | refine sl_yes rfl rfl ?_ | refine sl_no rfl rfl rfl ?_ | refine sl_off rfl rfl rfl ?_ | (fail)); exact k.out)) : φ := h ⟨k⟩
theorem sto_Skg {φ ψ : Prop} (k : ψ) (h : Hide ψ → φ := by (intro k; (first | refine sl_store rfl (by exact pick_) rfl rfl (by kernel_rfl) (by exact set_Skg) ?_ | refine sl_store_whole rfl (by exact pick_) rfl (by exact sz_Skg) (by exact sz_Skg) (by exact one_Skg) ?_); exact k.out)) : φ := h ⟨k⟩
theorem go_Skg {φ ψ : Prop} (k : ψ) (h : Hide ψ → φ := by (intro k; (repeat (first | refine su_Skg ?_ | refine so_ ?_ | refine sto_Skg ?_)); exact k.out)) : φ := h ⟨k⟩
set_option maxRecDepth 100000 in
theorem again_err {K Z : List Fa} {g n c : Nat} {cc : Int} {A : Option Addr} {bs : List Int} (hz : Sub K Z) (h : Rd Z A n c bs) (hd : decR bs = .inl cc) (hc : cc ≠ 0) :
    Fn Tryz.prog 44 #[.pointer (some ⟨g, 0, none⟩), .slice A n c] K (Ret (fun _ : Unit => True) (fun _ => .int .i64 cc) (fun _ => K)) := by
  refine fn_enter Tryz.func44 rfl _ Tryz.ntmps44 (by simp) [(0, .pointer (some ⟨g, 0, none⟩)), (1, .slice A n c)] (args_of (by simp)) ?_
  refine go_Skg ?_
  refine sl_box rfl rfl rfl ?_; intro go
  refine go_Skg ?_
  refine sl_alloc rfl rfl rfl ?_; intro gd
  refine go_Skg ?_
  refine sl_call rfl rfl (by kernel_rfl) rfl Sub.refl (aread_ok (K := goB go g :: K) (gs := go) (gd := gd) (v0 := .nilFunc) (Sub.skip hz) h) ?_
  rintro x -
  have hx : agX bs x = some cc := by unfold agX; rw [hd]
  have hH : agH go gd .nilFunc (goB go g :: K) bs x = doB gd .nilFunc :: goB go g :: K := by unfold agH; rw [hd]
  rw [hx, hH]
  dsimp only [rdCode]
  refine go_Skg ?_
  exact se_ret1 () trivial rfl rfl (by exact sub_)
set_option maxRecDepth 100000 in
theorem again_rest {K Z : List Fa} {g n c m : Nat} {A : Option Addr} {bs : List Int} {r : Rc} (hz : Sub K Z) (h : Rd Z A n c bs) (hd : decR bs = .inr (r, m)) (hm : m ≠ 0) :
    Fn Tryz.prog 44 #[.pointer (some ⟨g, 0, none⟩), .slice A n c] K (Ret (fun _ : Unit => True) (fun _ => .int .i64 27) (fun _ => K)) := by
  have hsub : ∀ (x : Ag) (L : List Fa), Sub (doF x L r) L := fun x L => by
    cases r
    · exact Sub.skip (Sub.skip (Sub.skip Sub.refl))
    · exact Sub.skip (Sub.skip (Sub.skip (Sub.skip (Sub.skip Sub.refl))))
    · exact Sub.skip (Sub.skip Sub.refl)
    · exact Sub.skip Sub.refl
    · exact Sub.skip Sub.refl
  refine fn_enter Tryz.func44 rfl _ Tryz.ntmps44 (by simp) [(0, .pointer (some ⟨g, 0, none⟩)), (1, .slice A n c)] (args_of (by simp)) ?_
  refine go_Skg ?_
  refine sl_box rfl rfl rfl ?_; intro go
  refine go_Skg ?_
  refine sl_alloc rfl rfl rfl ?_; intro gd
  refine go_Skg ?_
  refine sl_call rfl rfl (by kernel_rfl) rfl Sub.refl (aread_ok (K := goB go g :: K) (gs := go) (gd := gd) (v0 := .nilFunc) (Sub.skip hz) h) ?_
  rintro x -
  have hx : agX bs x = none := by unfold agX; rw [hd]
  have hm2 : agM bs x = m := by unfold agM; rw [hd]
  have hH : agH go gd .nilFunc (goB go g :: K) bs x = doB gd (doV go x r) :: doF x (goB go g :: K) r := by unfold agH; rw [hd]
  rw [hx, hm2, hH]
  dsimp only [rdCode]
  rw [if_neg hm]
  refine sl_sub (L' := goB go g :: K) (Sub.skip (hsub x _)) ?_
  refine go_Skg ?_
  exact se_ret1 () trivial rfl rfl (by exact sub_)
set_option maxRecDepth 100000 in
theorem again_do {K Z : List Fa} {g n c : Nat} {A : Option Addr} {bs : List Int} {r : Rc} {α : Type} {φ : α → Prop} {vv : α → Value} {H : α → List Fa} (hz : Sub K Z) (h : Rd Z A n c bs) (hd : decR bs = .inr (r, 0))
    (hdo : ∀ (go : Nat) (x : Ag), Fn Tryz.prog (doId r) (doCaps go x r).toArray (doF x (goB go g :: K) r) (Ret φ vv H)) :
    Fn Tryz.prog 44 #[.pointer (some ⟨g, 0, none⟩), .slice A n c] K (Ret φ vv H) := by
  refine fn_enter Tryz.func44 rfl _ Tryz.ntmps44 (by simp) [(0, .pointer (some ⟨g, 0, none⟩)), (1, .slice A n c)] (args_of (by simp)) ?_
  refine go_Skg ?_
  refine sl_box rfl rfl rfl ?_; intro go
  refine go_Skg ?_
  refine sl_alloc rfl rfl rfl ?_; intro gd
  refine go_Skg ?_
  refine sl_call rfl rfl (by kernel_rfl) rfl Sub.refl (aread_ok (K := goB go g :: K) (gs := go) (gd := gd) (v0 := .nilFunc) (Sub.skip hz) h) ?_
  rintro x -
  have hx : agX bs x = none := by unfold agX; rw [hd]
  have hm2 : agM bs x = 0 := by unfold agM; rw [hd]
  have hH : agH go gd .nilFunc (goB go g :: K) bs x = doB gd (doV go x r) :: doF x (goB go g :: K) r := by unfold agH; rw [hd]
  rw [hx, hm2, hH, doV_eq]
  dsimp only [rdCode]
  rw [if_pos rfl]
  refine go_Skg ?_
  refine sl_call rfl rfl (doId_call r) rfl (Sub.skip Sub.refl) (hdo go x) ?_
  rintro y hy
  refine go_Skg ?_
  exact se_ret1 y hy rfl rfl Sub.refl
end Go.Proofs.YtocaabnbmcpjmaaGreat
