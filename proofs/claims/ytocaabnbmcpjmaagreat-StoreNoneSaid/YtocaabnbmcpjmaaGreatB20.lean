/- Several texts of one claim, one behind the other (Ska, Skg, Gg). -/
import Derived.Test.YtocaabnbmcpjmaaGreatB07
import Derived.Test.YtocaabnbmcpjmaaGreatB19
import Derived.Test.YtocaabnbmcpjmaaGreatB14
set_option linter.unusedVariables false
set_option linter.unusedSimpArgs false
/- Package store: again$1: what a record's bytes say. Written by wip/tools/mkska.py. -/
namespace Go.Proofs.YtocaabnbmcpjmaaGreat
open Go.RowKit Go.MapKept
attribute [local irreducible] Go.Calls Go.Exit.then Go.Exit.inBlock Go.bodyPost Go.Code.wp Go.wpList takeL recordL hashL recL allL
/-- A record. -/
inductive Rc
  | acc (id : List Int) (t : Int) (p s : List Int)
  | com (id : List Int) (b d : List Int)
  | rej (id : List Int) (c : Int)
  | shut (s : Int)
  | life (n : Int)
def gLong (r : List Int) : Int ⊕ (List Int × List Int) :=
  if r.length < 4 then .inl 3 else if 65536 < leV (r.take 4) then .inl 4 else if r.length - 4 < (leV (r.take 4)).toNat then .inl 3
  else .inr ((r.drop 4).take (leV (r.take 4)).toNat, r.drop (4 + (leV (r.take 4)).toNat))
def dAcc4 (id : List Int) (t : Int) (p r : List Int) : Int ⊕ (Rc × Nat) := match gLong r with
  | .inl c => .inl c
  | .inr (s, r) => .inr (.acc id t p s, r.length)
def dAcc3 (id : List Int) (t : Int) (r : List Int) : Int ⊕ (Rc × Nat) := match gLong r with
  | .inl c => .inl c
  | .inr (p, r) => dAcc4 id t p r
def dAcc2 (id r : List Int) : Int ⊕ (Rc × Nat) := if r.length < 6 then .inl 3 else dAcc3 id (leV (r.take 6)) (r.drop 6)
def dAcc (r : List Int) : Int ⊕ (Rc × Nat) := if r.length < 16 then .inl 3 else dAcc2 (r.take 16) (r.drop 16)
def dCom3 (id b r : List Int) : Int ⊕ (Rc × Nat) := match gLong r with
  | .inl c => .inl c
  | .inr (d, r) => .inr (.com id b d, r.length)
def dCom2 (id r : List Int) : Int ⊕ (Rc × Nat) := match gLong r with
  | .inl c => .inl c
  | .inr (b, r) => dCom3 id b r
def dCom (r : List Int) : Int ⊕ (Rc × Nat) := if r.length < 16 then .inl 3 else dCom2 (r.take 16) (r.drop 16)
def dRej2 (id r : List Int) : Int ⊕ (Rc × Nat) := if r.length < 1 then .inl 3 else .inr (.rej id (leV (r.take 1)), (r.drop 1).length)
def dRej (r : List Int) : Int ⊕ (Rc × Nat) := if r.length < 16 then .inl 3 else dRej2 (r.take 16) (r.drop 16)
def dShut (r : List Int) : Int ⊕ (Rc × Nat) := if r.length < 6 then .inl 3 else .inr (.shut (leV (r.take 6)), (r.drop 6).length)
def dLife (r : List Int) : Int ⊕ (Rc × Nat) := if r.length < 6 then .inl 3 else .inr (.life (leV (r.take 6)), (r.drop 6).length)
def decR (bs : List Int) : Int ⊕ (Rc × Nat) :=
  if bs.length < 1 then .inl 3 else
  if leV (bs.take 1) = 1 then dAcc (bs.drop 1) else if leV (bs.take 1) = 2 then dCom (bs.drop 1) else if leV (bs.take 1) = 3 then dRej (bs.drop 1) else
  if leV (bs.take 1) = 4 then dShut (bs.drop 1) else if leV (bs.take 1) = 5 then dLife (bs.drop 1) else .inl 10
/-- What there is behind the reading: where the record's parts lie. -/
structure Ag where
  g1 : Nat
  g2 : Nat
  g3 : Nat
  A : Option Addr
  c : Nat
  B : Option Addr
  d : Nat
def doV (gs : Nat) (x : Ag) : Rc → Value
  | .acc .. => .func (.func 91) #[] #[.pointer (some ⟨gs, 0, none⟩), .pointer (some ⟨x.g1, 0, none⟩)]
  | .com .. => .func (.func 92) #[] #[.pointer (some ⟨gs, 0, none⟩), .pointer (some ⟨x.g1, 0, none⟩), .pointer (some ⟨x.g2, 0, none⟩), .pointer (some ⟨x.g3, 0, none⟩)]
  | .rej .. => .func (.func 93) #[] #[.pointer (some ⟨gs, 0, none⟩), .pointer (some ⟨x.g1, 0, none⟩), .pointer (some ⟨x.g2, 0, none⟩)]
  | .shut .. => .func (.func 94) #[] #[.pointer (some ⟨gs, 0, none⟩), .pointer (some ⟨x.g1, 0, none⟩)]
  | .life .. => .func (.func 95) #[] #[.pointer (some ⟨x.g1, 0, none⟩), .pointer (some ⟨gs, 0, none⟩)]
def doF (x : Ag) (K : List Fa) : Rc → List Fa
  | .acc id t p s => blk x.g1 49 (bytes id ++ [.int .u64 t, .slice x.A p.length x.c, .slice x.B s.length x.d]) :: u8o x.A x.c p :: u8o x.B x.d s :: K
  | .com id b d => blk x.g1 47 (bytes id) :: blk x.g2 27 [.slice x.A b.length x.c] :: blk x.g3 27 [.slice x.B d.length x.d] :: u8o x.A x.c b :: u8o x.B x.d d :: K
  | .rej id c => blk x.g1 47 (bytes id) :: blk x.g2 42 [.int .i64 c] :: K
  | .shut s => blk x.g1 36 [.int .u64 s] :: K
  | .life n => blk x.g1 36 [.int .u64 n] :: K
abbrev doB (g : Nat) (v : Value) : Fa := blk g 50 [v]
def agM (bs : List Int) (_ : Ag) : Nat := match decR bs with
  | .inl _ => 0
  | .inr (_, m) => m
def agX (bs : List Int) (_ : Ag) : Option Int := match decR bs with
  | .inl c => some c
  | .inr _ => none
def agH (gs gd : Nat) (v0 : Value) (K : List Fa) (bs : List Int) (x : Ag) : List Fa := match decR bs with
  | .inl _ => doB gd v0 :: K
  | .inr (r, _) => doB gd (doV gs x r) :: doF x K r
section
variable {P : Program} {Q : Exit → Act → World → Prop} {n : Nat} {l : Env} {L : List Fa} {fn : Func} {R : Ending → World → Prop} {c : List PanicEntry}
theorem se_end0R (hr : fn.results = #[]) (h : ∀ w, Sep w L → R (.returned (.tuple #[])) w) : SE (bodyPost P fn R) .normal n l L := by
  unfold SE
  intro w hw
  exact we_end0 hr (h w hw)
theorem se_panicR (h : ∀ w, Sep w L → R (.panicked c) w) : SE (bodyPost P fn R) (.panic c) n l L := by
  unfold SE
  intro w hw
  exact we_panic (h w hw)
end
section
variable {n : Nat} {l : Env} {L : List Fa} {fn : Func} {gs gd r : Nat} {v0 : Value} {K : List Fa} {bs : List Int} {F1 F2 : Fa} {c : Int} {s : Value} {rc : Rc} {m : Nat}
abbrev agR (gs gd : Nat) (v0 : Value) (K : List Fa) (bs : List Int) (r : Nat) (F1 F2 : Fa) : Ending → World → Prop := RdEnd (fun _ : Ag => True) (agM bs) (agX bs) (agH gs gd v0 K bs) r F1 F2
theorem ag_die (hd : decR bs = .inl c) (hs : Sub L (blk r 201 [s, .bool true] :: F1 :: F2 :: doB gd v0 :: K)) : SE (bodyPost Tryz.prog fn (agR gs gd v0 K bs r F1 F2)) (.panic (stopC c)) n l L := se_panicR fun w hw => by
  refine ⟨⟨0, 0, 0, none, 0, none, 0⟩, trivial, ?_⟩
  have h1 : agX bs ⟨0, 0, 0, none, 0, none, 0⟩ = some c := by unfold agX; rw [hd]
  rw [h1]
  refine ⟨rfl, s, ?_⟩
  unfold agH
  rw [hd]
  exact hw.sub hs
theorem ag_end (x : Ag) (hd : decR bs = .inr (rc, m)) (hr : fn.results = #[]) {A : Option Addr} {cc : Nat} (hs : Sub L (rdb r A m cc :: F1 :: F2 :: doB gd (doV gs x rc) :: doF x K rc)) : SE (bodyPost Tryz.prog fn (agR gs gd v0 K bs r F1 F2)) .normal n l L := se_end0R hr fun w hw => by
  refine ⟨x, trivial, ?_⟩
  have h1 : agX bs x = none := by unfold agX; rw [hd]
  have h2 : agM bs x = m := by unfold agM; rw [hd]
  rw [h1]
  refine ⟨rfl, A, cc, ?_⟩
  rw [h2]
  unfold agH
  rw [hd]
  exact hw.sub hs
end
theorem build_rep (id : Id) (W : World) : (Instr.build 49 #[(0, id.v)]).run Tryz.prog W = .ok (.agg (rpC id 0 (.slice none 0 0) (.slice none 0 0)).toArray) W := by
  obtain ⟨a0, a1, a2, a3, a4, a5, a6, a7, a8, a9, a10, a11, a12, a13, a14, a15, h⟩ := list16m id.len
  show (Instr.build 49 #[(0, .agg (bytes id.l).toArray)]).run Tryz.prog W = .ok (.agg (bytes id.l ++ [Value.int .u64 0, .slice none 0 0, .slice none 0 0]).toArray) W
  rw [h]
  kernel_rfl
theorem rpC_set16 {id : Id} {t v : Int} {P S : Value} : SetAt 16 (.int .u64 v) (rpC id t P S) (rpC id v P S) := SetAt.tail (k := 16) (a := bytes id.l) (i := 0) (by rw [bytes_length, id.len]) SetAt.here
theorem rpC_set17 {id : Id} {t : Int} {P S v : Value} : SetAt 17 v (rpC id t P S) (rpC id t v S) := SetAt.tail (k := 16) (a := bytes id.l) (i := 1) (by rw [bytes_length, id.len]) (SetAt.there SetAt.here)
theorem rpC_set18 {id : Id} {t : Int} {P S v : Value} : SetAt 18 v (rpC id t P S) (rpC id t P v) := SetAt.tail (k := 16) (a := bytes id.l) (i := 2) (by rw [bytes_length, id.len]) (SetAt.there (SetAt.there SetAt.here))
theorem lev1 {xs : List Int} {k : Nat} (h : IsBytes xs) (hl : xs.length = k) (hk : k ≤ 8) : 0 ≤ leV xs ∧ leV xs ≤ 18446744073709551615 := by
  obtain ⟨h1, h2⟩ := leV_lt h
  have h3 := Int.ofNat_le.2 (Nat.pow_le_pow_right (n := 2) (by decide) (show 8 * xs.length ≤ 64 by omega))
  rw [Int.natCast_pow, Int.natCast_pow] at h3
  have h4 : ((2 : Nat) : Int) ^ 64 = 18446744073709551616 := by decide
  have h5 : ((2 : Nat) : Int) = 2 := rfl
  rw [h4, h5] at h3
  omega
theorem nth_Ska {φ : Prop} (h : φ := by (first | rfl | first | rfl | exact rpC_n16 | exact rpC_n17 | exact rpC_n18)) : φ := h
theorem mid_Ska {φ : Prop} (h : φ := by (first | first | exact rpC_id | exact Mid.all | exact Mid.all | exact Mid.head)) : φ := h
theorem sz_Ska {φ : Prop} (h : φ := by (first | rfl | ((try simp only [rpC_len, bytes_length, Id.len]); (first | done | rfl); first | done | fail))) : φ := h
theorem one_Ska {φ : Prop} (h : φ := by (first | assumption | exact first | exact one_bytes _ | exact rpC_one rfl rfl | (simp only [List.mem_cons, List.not_mem_nil, or_false, forall_eq_or_imp, forall_eq]; decide) | exact one_bytes _ | (intro v hv; (repeat (rcases List.mem_cons.1 hv with rfl | hv; rfl)); cases hv))) : φ := h
theorem set_Ska {φ : Prop} (h : φ := by (first | (first | exact rpC_set16 | exact rpC_set17 | exact rpC_set18) | ((repeat (first | exact SetAt.here | apply SetAt.there)); first | done | fail))) : φ := h
theorem cl_Ska {φ : Prop} (h : φ := by first | rfl | exact .t | exact .f | exact .t (by omega) | exact .f (by omega) | exact .u | exact .i (by (first | exact .t (by omega) | exact .f (by omega) | exact .u | exact .i (by omega) | exact .v (by omega) | exact .b (by omega) | exact .w | rfl | omega)) | exact .v (by omega) | exact .b (by omega) | exact .q (by omega) | exact .w | exact .b (by exact at_) rfl (by exact nth_Ska) | exact .w (by exact at_) rfl rfl (by exact sz_Ska) | exact .s (by exact at_) (by exact mid_Ska) rfl rfl (by exact sz_Ska) | exact .z rfl rfl ⟨by kernel_rfl⟩ | exact .b rfl rfl ⟨by kernel_rfl⟩ | exact .a rfl rfl ⟨by kernel_rfl⟩ | exact .o rfl | exact .s | exact .n | exact .p rfl | exact .q rfl | exact .c rfl | exact .d rfl | exact .n rfl rfl (by omega) | exact .a rfl rfl (by omega) | exact .p rfl rfl (by omega) (by omega) | exact .y rfl rfl (by omega) (by omega) | exact .o (by exact at_) (by omega) rfl (by exact nth_Ska) | exact .m (by exact at_) (by omega) (by exact mid_Ska) rfl rfl (by exact sz_Ska) | exact .mlen (by exact at_) rfl | exact .t (by exact at_) rfl rfl (by first | exact True.intro | rfl) (by assumption) | exact .f (by exact at_) rfl rfl (by first | exact True.intro | rfl) (by assumption) rfl | exact .t1 (by exact at_) rfl rfl (by first | exact True.intro | rfl) (by assumption) | exact .f1 (by exact at_) rfl rfl (by first | exact True.intro | rfl) (by assumption) rfl | exact .tk (by exact at_) rfl (by assumption) (by assumption) | exact .fk (by exact at_) rfl (by assumption) (by assumption) rfl | exact .tk1 (by exact at_) rfl (by assumption) (by assumption) | exact .fk1 (by exact at_) rfl (by assumption) (by assumption) rfl | exact .r rfl rfl (by omega) (by omega) (by exact nth_Ska) rfl | exact .s rfl (by omega) (by assumption) | exact at_ | assumption | exact .r rfl rfl | exact .h rfl rfl rfl (by omega) | exact .l rfl rfl rfl (by omega) (by omega) | exact .g rfl rfl rfl rfl (by omega) (by omega) | exact .h rfl rfl (toN_ (by omega)) (by omega) | exact .l rfl rfl (toN_ (by omega)) (by omega) (by omega) | exact .g rfl rfl (toN_ (by omega)) (toN_ (by omega)) (by omega) (by omega) | exact .o (by decide) | exact .f (by decide) | exact .n (by omega) (by first | decide | (show _ ≤ ((64 : Nat) : Int); omega)) | (constructor; (repeat (first | exact .t (by omega) | exact .f (by omega) | exact .u | exact .i (by omega) | exact .v (by omega) | exact .b (by omega) | exact .w | rfl | omega)); first | done | fail) | omega | (show _ ≤ ((64 : Nat) : Int); omega)) : φ := h
theorem pv_Ska {φ : Prop} (h : φ := by constructor; (repeat exact cl_Ska); first | done | fail) : φ := h
theorem su_Ska {φ ψ : Prop} (k : ψ) (h : Hide ψ → φ := by (intro k; (first | refine sl_pu (PuI.sep (by exact pv_Ska)) rfl ?_ | refine sl_yes rfl rfl ?_ | refine sl_no rfl rfl rfl ?_ | refine sl_off rfl rfl rfl ?_ | (fail)); exact k.out)) : φ := h ⟨k⟩
theorem sto_Ska {φ ψ : Prop} (k : ψ) (h : Hide ψ → φ := by (intro k; (first | refine sl_store rfl (by exact pick_) rfl rfl (by kernel_rfl) (by exact set_Ska) ?_ | refine sl_store_whole rfl (by exact pick_) rfl (by exact sz_Ska) (by exact sz_Ska) (by exact one_Ska) ?_); exact k.out)) : φ := h ⟨k⟩
theorem go_Ska {φ ψ : Prop} (k : ψ) (h : Hide ψ → φ := by (intro k; (repeat (first | refine su_Ska ?_ | refine so_ ?_ | refine sto_Ska ?_)); exact k.out)) : φ := h ⟨k⟩
set_option maxRecDepth 100000 in
set_option maxHeartbeats 16000000 in
theorem agf_ok {K Z : List Fa} {r gs gd n c : Nat} {A : Option Addr} {bs : List Int} {v0 : Value} {F1 F2 : Fa} (hz : Sub K Z) (h : Rd Z A n c bs) :
    Fn Tryz.prog 87 (#[.pointer (some ⟨r, 0, none⟩)] ++ #[.pointer (some ⟨gs, 0, none⟩), .pointer (some ⟨gd, 0, none⟩)]) (rdb r A n c :: F1 :: F2 :: doB gd v0 :: K) (agR gs gd v0 K bs r F1 F2) := by
  have hz3 : Sub (F1 :: F2 :: doB gd v0 :: K) Z := Sub.skip (Sub.skip (Sub.skip hz))
  have hbl := h.len
  refine fn_enter Tryz.func87 rfl _ Tryz.ntmps87 (by simp) [(0, .pointer (some ⟨r, 0, none⟩)), (1, .pointer (some ⟨gs, 0, none⟩)), (2, .pointer (some ⟨gd, 0, none⟩))] (args_of (by simp)) ?_
  refine go_Ska ?_
  by_cases e0 : n < 1
  · have hd : decR bs = .inl 3 := by unfold decR; rw [if_pos (by omega)]
    refine sl_die rfl rfl (by kernel_rfl) (by exact sub_) (rUint_die (k := 1) (by decide) e0) ?_
    rintro _ -
    refine go_Ska ?_
    exact ag_die hd (by exact sub_)
  refine sl_call rfl rfl (by kernel_rfl) rfl Sub.refl (rUint (k := 1) hz3 h (by decide) (by omega)) ?_
  rintro q1 h1
  have hd0 : decR bs = if leV (bs.take 1) = 1 then dAcc (bs.drop 1) else if leV (bs.take 1) = 2 then dCom (bs.drop 1) else if leV (bs.take 1) = 3 then dRej (bs.drop 1) else
      if leV (bs.take 1) = 4 then dShut (bs.drop 1) else if leV (bs.take 1) = 5 then dLife (bs.drop 1) else .inl 10 := by unfold decR; rw [if_neg (by omega)]
  generalize leV (bs.take 1) = kk at hd0 ⊢
  generalize bs.drop 1 = r1 at hd0 h1
  have l1 := h1.len
  obtain ⟨rq1, hrq⟩ : ∃ x, x = r1 := ⟨_, rfl⟩
  rw [← hrq] at h1 hd0
  clear hrq l1
  by_cases k1 : kk = 1
  · subst k1
    rw [if_pos rfl] at hd0
    refine go_Ska ?_
    have lq1 := h1.len
    by_cases eq1 : q1.n < 16
    · have hdx : decR bs = .inl 3 := by rw [hd0]; unfold dAcc; rw [if_pos (by omega)]
      refine sl_die rfl rfl (by kernel_rfl) (by exact sub_) (rId_die eq1) ?_
      rintro _ -
      refine go_Ska ?_
      exact ag_die hdx (by exact sub_)
    refine sl_call rfl rfl (by kernel_rfl) rfl (by exact sub_) (rId (by repeat (first | exact hz3 | exact hz | apply Sub.skip)) h1 (by omega) ⟨rq1.take 16, by rw [List.length_take]; omega, h1.okb.take 16⟩ rfl) ?_
    rintro q2 h2
    have hd1 : decR bs = dAcc2 (rq1.take 16) (rq1.drop 16) := by rw [hd0]; unfold dAcc; rw [if_neg (by omega)]
    obtain ⟨id, hid⟩ : ∃ id : Id, id = ⟨rq1.take 16, by rw [List.length_take]; omega, h1.okb.take 16⟩ := ⟨_, rfl⟩
    rw [← hid]
    have hid2 : rq1.take 16 = id.l := by rw [hid]
    rw [hid2] at hd1
    generalize rq1.drop 16 = rq2 at hd1 h2
    refine sl_pu (pu_build (v := .agg (rpC id 0 (.slice none 0 0) (.slice none 0 0)).toArray) rfl (build_rep id)) rfl ?_
    refine sl_alloc rfl rfl rfl ?_; intro g4
    refine sl_store_whole (cl := rpC id 0 (.slice none 0 0) (.slice none 0 0)) rfl (by exact pick_) rfl (by rw [rpC_len]; rfl) (by rw [rpC_len]; rfl) (rpC_one rfl rfl) ?_
    refine go_Ska ?_
    have lq2 := h2.len
    by_cases eq2 : q2.n < 6
    · have hdx : decR bs = .inl 3 := by rw [hd1]; unfold dAcc2; rw [if_pos (by omega)]
      refine sl_die rfl rfl (by kernel_rfl) (by exact sub_) (rUint_die (k := 6) (by decide) eq2) ?_
      rintro _ -
      refine go_Ska ?_
      exact ag_die hdx (by exact sub_)
    refine sl_call rfl rfl (by kernel_rfl) rfl (by exact sub_) (rUint (k := 6) (by repeat (first | exact hz3 | exact hz | apply Sub.skip)) h2 (by decide) (by omega)) ?_
    rintro q3 h3
    have hd2 : decR bs = dAcc3 id.l (leV (rq2.take 6)) (rq2.drop 6) := by rw [hd1]; unfold dAcc2; rw [if_neg (by omega)]
    have hvq2 := lev1 (h2.okb.take 6) (k := 6) (by rw [List.length_take]; omega) (by decide)
    generalize leV (rq2.take 6) = tm at hd2 hvq2 ⊢
    generalize rq2.drop 6 = rq3 at hd2 h3
    refine go_Ska ?_
    have lq3 := h3.len
    by_cases eq3 : q3.n < 4
    · have hdx : decR bs = .inl 3 := by rw [hd2]; unfold dAcc3 gLong; rw [if_pos (by omega)]
      refine sl_die rfl rfl (by kernel_rfl) (by exact sub_) (rLong_die (m := 65536) eq3) ?_
      rintro _ -
      refine go_Ska ?_
      exact ag_die hdx (by exact sub_)
    obtain ⟨kq3, hkq3⟩ : ∃ k : Nat, leV (rq3.take 4) = k := ⟨(leV (rq3.take 4)).toNat, by have := (leV_lt (h3.okb.take 4)).1; omega⟩
    by_cases fq3 : 65536 < kq3
    · have hdx : decR bs = .inl 4 := by rw [hd2]; unfold dAcc3 gLong; rw [if_neg (by omega), hkq3, if_pos (by omega)]
      refine sl_die rfl rfl (by kernel_rfl) (by exact sub_) (rLong_die4 (m := 65536) (by repeat (first | exact hz3 | exact hz | apply Sub.skip)) h3 (by omega) hkq3 fq3 (by decide)) ?_
      rintro _ -
      refine go_Ska ?_
      exact ag_die hdx (by exact sub_)
    by_cases iq3 : q3.n - 4 < kq3
    · have hdx : decR bs = .inl 3 := by rw [hd2]; unfold dAcc3 gLong; rw [if_neg (by omega), hkq3, if_neg (by omega), if_pos (by rw [Int.toNat_natCast]; omega)]
      refine sl_die rfl rfl (by kernel_rfl) (by exact sub_) (rLong_die3 (m := 65536) (by repeat (first | exact hz3 | exact hz | apply Sub.skip)) h3 (by omega) hkq3 (by omega) iq3 (by decide)) ?_
      rintro _ -
      refine go_Ska ?_
      exact ag_die hdx (by exact sub_)
    refine sl_call rfl rfl (by kernel_rfl) rfl (by exact sub_) (rLong (m := 65536) (by repeat (first | exact hz3 | exact hz | apply Sub.skip)) h3 (by omega) hkq3 (by omega) (by omega) (by decide)) ?_
    rintro ⟨⟨A1, c1⟩, q4⟩ h4
    dsimp only at h4 ⊢
    have hd3 : decR bs = dAcc4 id.l tm ((rq3.drop 4).take kq3) (rq3.drop (4 + kq3)) := by rw [hd2]; unfold dAcc3 gLong; rw [if_neg (by omega), hkq3, if_neg (by omega), if_neg (by rw [Int.toNat_natCast]; omega)]; dsimp only; rw [Int.toNat_natCast]
    generalize rq3.drop (4 + kq3) = rq4 at hd3 h4
    generalize hps : (rq3.drop 4).take kq3 = ps at hd3 ⊢
    have psl : ps.length = kq3 := by rw [← hps, List.length_take, List.length_drop]; omega
    clear hps
    subst psl
    refine go_Ska ?_
    have lq4 := h4.len
    by_cases eq4 : q4.n < 4
    · have hdx : decR bs = .inl 3 := by rw [hd3]; unfold dAcc4 gLong; rw [if_pos (by omega)]
      refine sl_die rfl rfl (by kernel_rfl) (by exact sub_) (rLong_die (m := 65536) eq4) ?_
      rintro _ -
      refine go_Ska ?_
      exact ag_die hdx (by exact sub_)
    obtain ⟨kq4, hkq4⟩ : ∃ k : Nat, leV (rq4.take 4) = k := ⟨(leV (rq4.take 4)).toNat, by have := (leV_lt (h4.okb.take 4)).1; omega⟩
    by_cases fq4 : 65536 < kq4
    · have hdx : decR bs = .inl 4 := by rw [hd3]; unfold dAcc4 gLong; rw [if_neg (by omega), hkq4, if_pos (by omega)]
      refine sl_die rfl rfl (by kernel_rfl) (by exact sub_) (rLong_die4 (m := 65536) (by repeat (first | exact hz3 | exact hz | apply Sub.skip)) h4 (by omega) hkq4 fq4 (by decide)) ?_
      rintro _ -
      refine go_Ska ?_
      exact ag_die hdx (by exact sub_)
    by_cases iq4 : q4.n - 4 < kq4
    · have hdx : decR bs = .inl 3 := by rw [hd3]; unfold dAcc4 gLong; rw [if_neg (by omega), hkq4, if_neg (by omega), if_pos (by rw [Int.toNat_natCast]; omega)]
      refine sl_die rfl rfl (by kernel_rfl) (by exact sub_) (rLong_die3 (m := 65536) (by repeat (first | exact hz3 | exact hz | apply Sub.skip)) h4 (by omega) hkq4 (by omega) iq4 (by decide)) ?_
      rintro _ -
      refine go_Ska ?_
      exact ag_die hdx (by exact sub_)
    refine sl_call rfl rfl (by kernel_rfl) rfl (by exact sub_) (rLong (m := 65536) (by repeat (first | exact hz3 | exact hz | apply Sub.skip)) h4 (by omega) hkq4 (by omega) (by omega) (by decide)) ?_
    rintro ⟨⟨A2, c2⟩, q5⟩ h5
    dsimp only at h5 ⊢
    have hd4 : decR bs = .inr (.acc id.l tm ps ((rq4.drop 4).take kq4), (rq4.drop (4 + kq4)).length) := by rw [hd3]; unfold dAcc4 gLong; rw [if_neg (by omega), hkq4, if_neg (by omega), if_neg (by rw [Int.toNat_natCast]; omega)]; dsimp only; rw [Int.toNat_natCast]
    generalize rq4.drop (4 + kq4) = rq5 at hd4 h5
    generalize hss : (rq4.drop 4).take kq4 = ss at hd4 ⊢
    have ssl : ss.length = kq4 := by rw [← hss, List.length_take, List.length_drop]; omega
    clear hss
    subst ssl
    refine go_Ska ?_
    have l5 := h5.len
    rw [l5] at hd4
    exact ag_end ⟨g4, 0, 0, A1, c1, A2, c2⟩ hd4 rfl (A := q5.A) (cc := q5.c) (by exact sub_)
  rw [if_neg k1] at hd0
  by_cases k2 : kk = 2
  · subst k2
    rw [if_pos rfl] at hd0
    refine go_Ska ?_
    have lq1 := h1.len
    by_cases eq1 : q1.n < 16
    · have hdx : decR bs = .inl 3 := by rw [hd0]; unfold dCom; rw [if_pos (by omega)]
      refine sl_die rfl rfl (by kernel_rfl) (by exact sub_) (rId_die eq1) ?_
      rintro _ -
      refine go_Ska ?_
      exact ag_die hdx (by exact sub_)
    refine sl_call rfl rfl (by kernel_rfl) rfl (by exact sub_) (rId (by repeat (first | exact hz3 | exact hz | apply Sub.skip)) h1 (by omega) ⟨rq1.take 16, by rw [List.length_take]; omega, h1.okb.take 16⟩ rfl) ?_
    rintro q2 h2
    have hd1 : decR bs = dCom2 (rq1.take 16) (rq1.drop 16) := by rw [hd0]; unfold dCom; rw [if_neg (by omega)]
    obtain ⟨id, hid⟩ : ∃ id : Id, id = ⟨rq1.take 16, by rw [List.length_take]; omega, h1.okb.take 16⟩ := ⟨_, rfl⟩
    rw [← hid]
    have hid2 : rq1.take 16 = id.l := by rw [hid]
    rw [hid2] at hd1
    generalize rq1.drop 16 = rq2 at hd1 h2
    refine go_Ska ?_
    refine sl_alloc rfl rfl rfl ?_; intro g5
    refine sl_store_whole (cl := bytes id.l) rfl (by exact pick_) rfl (by rw [bytes_length, id.len]; rfl) (by rw [bytes_length, id.len]; rfl) (one_bytes _) ?_
    refine go_Ska ?_
    have lq2 := h2.len
    by_cases eq2 : q2.n < 4
    · have hdx : decR bs = .inl 3 := by rw [hd1]; unfold dCom2 gLong; rw [if_pos (by omega)]
      refine sl_die rfl rfl (by kernel_rfl) (by exact sub_) (rLong_die (m := 65536) eq2) ?_
      rintro _ -
      refine go_Ska ?_
      exact ag_die hdx (by exact sub_)
    obtain ⟨kq2, hkq2⟩ : ∃ k : Nat, leV (rq2.take 4) = k := ⟨(leV (rq2.take 4)).toNat, by have := (leV_lt (h2.okb.take 4)).1; omega⟩
    by_cases fq2 : 65536 < kq2
    · have hdx : decR bs = .inl 4 := by rw [hd1]; unfold dCom2 gLong; rw [if_neg (by omega), hkq2, if_pos (by omega)]
      refine sl_die rfl rfl (by kernel_rfl) (by exact sub_) (rLong_die4 (m := 65536) (by repeat (first | exact hz3 | exact hz | apply Sub.skip)) h2 (by omega) hkq2 fq2 (by decide)) ?_
      rintro _ -
      refine go_Ska ?_
      exact ag_die hdx (by exact sub_)
    by_cases iq2 : q2.n - 4 < kq2
    · have hdx : decR bs = .inl 3 := by rw [hd1]; unfold dCom2 gLong; rw [if_neg (by omega), hkq2, if_neg (by omega), if_pos (by rw [Int.toNat_natCast]; omega)]
      refine sl_die rfl rfl (by kernel_rfl) (by exact sub_) (rLong_die3 (m := 65536) (by repeat (first | exact hz3 | exact hz | apply Sub.skip)) h2 (by omega) hkq2 (by omega) iq2 (by decide)) ?_
      rintro _ -
      refine go_Ska ?_
      exact ag_die hdx (by exact sub_)
    refine sl_call rfl rfl (by kernel_rfl) rfl (by exact sub_) (rLong (m := 65536) (by repeat (first | exact hz3 | exact hz | apply Sub.skip)) h2 (by omega) hkq2 (by omega) (by omega) (by decide)) ?_
    rintro ⟨⟨A1, c1⟩, q3⟩ h3
    dsimp only at h3 ⊢
    have hd2 : decR bs = dCom3 id.l ((rq2.drop 4).take kq2) (rq2.drop (4 + kq2)) := by rw [hd1]; unfold dCom2 gLong; rw [if_neg (by omega), hkq2, if_neg (by omega), if_neg (by rw [Int.toNat_natCast]; omega)]; dsimp only; rw [Int.toNat_natCast]
    generalize rq2.drop (4 + kq2) = rq3 at hd2 h3
    generalize hps : (rq2.drop 4).take kq2 = ps at hd2 ⊢
    have psl : ps.length = kq2 := by rw [← hps, List.length_take, List.length_drop]; omega
    clear hps
    subst psl
    refine go_Ska ?_
    refine sl_alloc rfl rfl rfl ?_; intro g6
    refine go_Ska ?_
    have lq3 := h3.len
    by_cases eq3 : q3.n < 4
    · have hdx : decR bs = .inl 3 := by rw [hd2]; unfold dCom3 gLong; rw [if_pos (by omega)]
      refine sl_die rfl rfl (by kernel_rfl) (by exact sub_) (rLong_die (m := 65536) eq3) ?_
      rintro _ -
      refine go_Ska ?_
      exact ag_die hdx (by exact sub_)
    obtain ⟨kq3, hkq3⟩ : ∃ k : Nat, leV (rq3.take 4) = k := ⟨(leV (rq3.take 4)).toNat, by have := (leV_lt (h3.okb.take 4)).1; omega⟩
    by_cases fq3 : 65536 < kq3
    · have hdx : decR bs = .inl 4 := by rw [hd2]; unfold dCom3 gLong; rw [if_neg (by omega), hkq3, if_pos (by omega)]
      refine sl_die rfl rfl (by kernel_rfl) (by exact sub_) (rLong_die4 (m := 65536) (by repeat (first | exact hz3 | exact hz | apply Sub.skip)) h3 (by omega) hkq3 fq3 (by decide)) ?_
      rintro _ -
      refine go_Ska ?_
      exact ag_die hdx (by exact sub_)
    by_cases iq3 : q3.n - 4 < kq3
    · have hdx : decR bs = .inl 3 := by rw [hd2]; unfold dCom3 gLong; rw [if_neg (by omega), hkq3, if_neg (by omega), if_pos (by rw [Int.toNat_natCast]; omega)]
      refine sl_die rfl rfl (by kernel_rfl) (by exact sub_) (rLong_die3 (m := 65536) (by repeat (first | exact hz3 | exact hz | apply Sub.skip)) h3 (by omega) hkq3 (by omega) iq3 (by decide)) ?_
      rintro _ -
      refine go_Ska ?_
      exact ag_die hdx (by exact sub_)
    refine sl_call rfl rfl (by kernel_rfl) rfl (by exact sub_) (rLong (m := 65536) (by repeat (first | exact hz3 | exact hz | apply Sub.skip)) h3 (by omega) hkq3 (by omega) (by omega) (by decide)) ?_
    rintro ⟨⟨A2, c2⟩, q4⟩ h4
    dsimp only at h4 ⊢
    have hd3 : decR bs = .inr (.com id.l ps ((rq3.drop 4).take kq3), (rq3.drop (4 + kq3)).length) := by rw [hd2]; unfold dCom3 gLong; rw [if_neg (by omega), hkq3, if_neg (by omega), if_neg (by rw [Int.toNat_natCast]; omega)]; dsimp only; rw [Int.toNat_natCast]
    generalize rq3.drop (4 + kq3) = rq4 at hd3 h4
    generalize hss : (rq3.drop 4).take kq3 = ss at hd3 ⊢
    have ssl : ss.length = kq3 := by rw [← hss, List.length_take, List.length_drop]; omega
    clear hss
    subst ssl
    refine go_Ska ?_
    refine sl_alloc rfl rfl rfl ?_; intro g7
    refine go_Ska ?_
    have l4 := h4.len
    rw [l4] at hd3
    exact ag_end ⟨g5, g6, g7, A1, c1, A2, c2⟩ hd3 rfl (A := q4.A) (cc := q4.c) (by exact sub_)
  rw [if_neg k2] at hd0
  by_cases k3 : kk = 3
  · subst k3
    rw [if_pos rfl] at hd0
    refine go_Ska ?_
    have lq1 := h1.len
    by_cases eq1 : q1.n < 16
    · have hdx : decR bs = .inl 3 := by rw [hd0]; unfold dRej; rw [if_pos (by omega)]
      refine sl_die rfl rfl (by kernel_rfl) (by exact sub_) (rId_die eq1) ?_
      rintro _ -
      refine go_Ska ?_
      exact ag_die hdx (by exact sub_)
    refine sl_call rfl rfl (by kernel_rfl) rfl (by exact sub_) (rId (by repeat (first | exact hz3 | exact hz | apply Sub.skip)) h1 (by omega) ⟨rq1.take 16, by rw [List.length_take]; omega, h1.okb.take 16⟩ rfl) ?_
    rintro q2 h2
    have hd1 : decR bs = dRej2 (rq1.take 16) (rq1.drop 16) := by rw [hd0]; unfold dRej; rw [if_neg (by omega)]
    obtain ⟨id, hid⟩ : ∃ id : Id, id = ⟨rq1.take 16, by rw [List.length_take]; omega, h1.okb.take 16⟩ := ⟨_, rfl⟩
    rw [← hid]
    have hid2 : rq1.take 16 = id.l := by rw [hid]
    rw [hid2] at hd1
    generalize rq1.drop 16 = rq2 at hd1 h2
    refine go_Ska ?_
    refine sl_alloc rfl rfl rfl ?_; intro g8
    refine sl_store_whole (cl := bytes id.l) rfl (by exact pick_) rfl (by rw [bytes_length, id.len]; rfl) (by rw [bytes_length, id.len]; rfl) (one_bytes _) ?_
    refine go_Ska ?_
    have h256 : q2.n < 1 ∨ leV (rq2.take 1) < 256 := by
      by_cases hq2 : q2.n < 1
      · exact .inl hq2
      · have h8 := (leV_lt (h2.okb.take 1)).2
        have l2 := h2.len
        have l3 : (rq2.take 1).length = 1 := by rw [List.length_take]; omega
        rw [l3] at h8
        exact .inr h8
    have lq2 := h2.len
    by_cases eq2 : q2.n < 1
    · have hdx : decR bs = .inl 3 := by rw [hd1]; unfold dRej2; rw [if_pos (by omega)]
      refine sl_die rfl rfl (by kernel_rfl) (by exact sub_) (rUint_die (k := 1) (by decide) eq2) ?_
      rintro _ -
      refine go_Ska ?_
      exact ag_die hdx (by exact sub_)
    refine sl_call rfl rfl (by kernel_rfl) rfl (by exact sub_) (rUint (k := 1) (by repeat (first | exact hz3 | exact hz | apply Sub.skip)) h2 (by decide) (by omega)) ?_
    rintro q3 h3
    have hd2 : decR bs = .inr (.rej id.l (leV (rq2.take 1)), (rq2.drop 1).length) := by rw [hd1]; unfold dRej2; rw [if_neg (by omega)]
    have hvq2 := lev1 (h2.okb.take 1) (k := 1) (by rw [List.length_take]; omega) (by decide)
    generalize leV (rq2.take 1) = cc at hd2 hvq2 h256 ⊢
    generalize rq2.drop 1 = rq3 at hd2 h3
    refine go_Ska ?_
    refine sl_alloc rfl rfl rfl ?_; intro g9
    refine go_Ska ?_
    have l3 := h3.len
    rw [l3] at hd2
    exact ag_end ⟨g8, g9, 0, none, 0, none, 0⟩ hd2 rfl (A := q3.A) (cc := q3.c) (by exact sub_)
  rw [if_neg k3] at hd0
  by_cases k4 : kk = 4
  · subst k4
    rw [if_pos rfl] at hd0
    refine go_Ska ?_
    have lq1 := h1.len
    by_cases eq1 : q1.n < 6
    · have hdx : decR bs = .inl 3 := by rw [hd0]; unfold dShut; rw [if_pos (by omega)]
      refine sl_die rfl rfl (by kernel_rfl) (by exact sub_) (rUint_die (k := 6) (by decide) eq1) ?_
      rintro _ -
      refine go_Ska ?_
      exact ag_die hdx (by exact sub_)
    refine sl_call rfl rfl (by kernel_rfl) rfl (by exact sub_) (rUint (k := 6) (by repeat (first | exact hz3 | exact hz | apply Sub.skip)) h1 (by decide) (by omega)) ?_
    rintro q2 h2
    have hd1 : decR bs = .inr (.shut (leV (rq1.take 6)), (rq1.drop 6).length) := by rw [hd0]; unfold dShut; rw [if_neg (by omega)]
    have hvq1 := lev1 (h1.okb.take 6) (k := 6) (by rw [List.length_take]; omega) (by decide)
    generalize leV (rq1.take 6) = vv at hd1 hvq1 ⊢
    generalize rq1.drop 6 = rq2 at hd1 h2
    refine go_Ska ?_
    refine sl_alloc rfl rfl rfl ?_; intro g9
    refine go_Ska ?_
    have l2 := h2.len
    rw [l2] at hd1
    exact ag_end ⟨g9, 0, 0, none, 0, none, 0⟩ hd1 rfl (A := q2.A) (cc := q2.c) (by exact sub_)
  rw [if_neg k4] at hd0
  by_cases k5 : kk = 5
  · subst k5
    rw [if_pos rfl] at hd0
    refine go_Ska ?_
    have lq1 := h1.len
    by_cases eq1 : q1.n < 6
    · have hdx : decR bs = .inl 3 := by rw [hd0]; unfold dLife; rw [if_pos (by omega)]
      refine sl_die rfl rfl (by kernel_rfl) (by exact sub_) (rUint_die (k := 6) (by decide) eq1) ?_
      rintro _ -
      refine go_Ska ?_
      exact ag_die hdx (by exact sub_)
    refine sl_call rfl rfl (by kernel_rfl) rfl (by exact sub_) (rUint (k := 6) (by repeat (first | exact hz3 | exact hz | apply Sub.skip)) h1 (by decide) (by omega)) ?_
    rintro q2 h2
    have hd1 : decR bs = .inr (.life (leV (rq1.take 6)), (rq1.drop 6).length) := by rw [hd0]; unfold dLife; rw [if_neg (by omega)]
    have hvq1 := lev1 (h1.okb.take 6) (k := 6) (by rw [List.length_take]; omega) (by decide)
    generalize leV (rq1.take 6) = vv at hd1 hvq1 ⊢
    generalize rq1.drop 6 = rq2 at hd1 h2
    refine go_Ska ?_
    refine sl_alloc rfl rfl rfl ?_; intro g9
    refine go_Ska ?_
    have l2 := h2.len
    rw [l2] at hd1
    exact ag_end ⟨g9, 0, 0, none, 0, none, 0⟩ hd1 rfl (A := q2.A) (cc := q2.c) (by exact sub_)
  rw [if_neg k5] at hd0
  refine go_Ska ?_
  refine sl_die rfl rfl (by kernel_rfl) (by exact sub_) (rFail (c := 10) (by decide)) ?_
  rintro _ -
  refine go_Ska ?_
  exact ag_die hd0 (by exact sub_)
end Go.Proofs.YtocaabnbmcpjmaaGreat
/- Package store: again: a record is read, and done. -/
namespace Go.Proofs.YtocaabnbmcpjmaaGreat
open Go.RowKit Go.MapKept
attribute [local irreducible] Go.Calls Go.Exit.then Go.Exit.inBlock Go.bodyPost Go.Code.wp Go.wpList takeL recordL hashL recL allL decR
def doId : Rc → Nat
  | .acc .. => 91
  | .com .. => 92
  | .rej .. => 93
  | .shut .. => 94
  | .life .. => 95
def doCaps (gs : Nat) (x : Ag) : Rc → List Value
  | .acc .. => [.pointer (some ⟨gs, 0, none⟩), .pointer (some ⟨x.g1, 0, none⟩)]
  | .com .. => [.pointer (some ⟨gs, 0, none⟩), .pointer (some ⟨x.g1, 0, none⟩), .pointer (some ⟨x.g2, 0, none⟩), .pointer (some ⟨x.g3, 0, none⟩)]
  | .rej .. => [.pointer (some ⟨gs, 0, none⟩), .pointer (some ⟨x.g1, 0, none⟩), .pointer (some ⟨x.g2, 0, none⟩)]
  | .shut .. => [.pointer (some ⟨gs, 0, none⟩), .pointer (some ⟨x.g1, 0, none⟩)]
  | .life .. => [.pointer (some ⟨x.g1, 0, none⟩), .pointer (some ⟨gs, 0, none⟩)]
theorem doV_eq (gs : Nat) (x : Ag) (r : Rc) : doV gs x r = .func (.func (doId r)) #[] (doCaps gs x r).toArray := by cases r <;> rfl
theorem doId_call (r : Rc) : callable Tryz.prog (doId r) = true := by
  cases r
  · show callable Tryz.prog 91 = true
    kernel_rfl
  · show callable Tryz.prog 92 = true
    kernel_rfl
  · show callable Tryz.prog 93 = true
    kernel_rfl
  · show callable Tryz.prog 94 = true
    kernel_rfl
  · show callable Tryz.prog 95 = true
    kernel_rfl
theorem again1_call : ∀ args w, (callFunc 87 args).run Tryz.prog w = .ok (.enter 87 args) w := fun args w => by kernel_rfl
abbrev goB (go g : Nat) : Fa := blk go 41 [.pointer (some ⟨g, 0, none⟩)]
/-- The reading. -/
theorem aread_ok {K Z : List Fa} {gs gd n c : Nat} {A : Option Addr} {bs : List Int} {v0 : Value} (hz : Sub K Z) (h : Rd Z A n c bs) :
    Fn Tryz.prog 86 #[.slice A n c, .func (.func 87) #[] #[.pointer (some ⟨gs, 0, none⟩), .pointer (some ⟨gd, 0, none⟩)]] (doB gd v0 :: K)
      (Ret (fun _ : Ag => True) (fun x => .int .i64 (rdCode (agM bs x) (agX bs x))) (agH gs gd v0 K bs)) :=
  read_fn again1_call (fun r F1 F2 => (agf_ok (F1 := F1) (F2 := F2) (v0 := v0) hz h))
theorem nth_Skg {φ : Prop} (h : φ := by (first | rfl | rfl)) : φ := h
theorem mid_Skg {φ : Prop} (h : φ := by (first | exact Mid.all | exact Mid.all | exact Mid.head)) : φ := h
theorem sz_Skg {φ : Prop} (h : φ := by (first | rfl | (rfl; first | done | fail))) : φ := h
theorem one_Skg {φ : Prop} (h : φ := by (first | assumption | exact one_bytes _ | (simp only [List.mem_cons, List.not_mem_nil, or_false, forall_eq_or_imp, forall_eq]; decide) | exact one_bytes _ | (intro v hv; (repeat (rcases List.mem_cons.1 hv with rfl | hv; rfl)); cases hv))) : φ := h
theorem set_Skg {φ : Prop} (h : φ := by (first | (fail) | ((repeat (first | exact SetAt.here | apply SetAt.there)); first | done | fail))) : φ := h
theorem cl_Skg {φ : Prop} (h : φ := by first | rfl | exact .t | exact .f | exact .t (by omega) | exact .f (by omega) | exact .u | exact .i (by (first | exact .t (by omega) | exact .f (by omega) | exact .u | exact .i (by omega) | exact .v (by omega) | exact .b (by omega) | exact .w | rfl | omega)) | exact .v (by omega) | exact .b (by omega) | exact .q (by omega) | exact .w | exact .b (by exact at_) rfl (by exact nth_Skg) | exact .w (by exact at_) rfl rfl (by exact sz_Skg) | exact .s (by exact at_) (by exact mid_Skg) rfl rfl (by exact sz_Skg) | exact .z rfl rfl ⟨by kernel_rfl⟩ | exact .b rfl rfl ⟨by kernel_rfl⟩ | exact .a rfl rfl ⟨by kernel_rfl⟩ | exact .o rfl | exact .s | exact .n | exact .p rfl | exact .q rfl | exact .c rfl | exact .d rfl | exact .n rfl rfl (by omega) | exact .a rfl rfl (by omega) | exact .p rfl rfl (by omega) (by omega) | exact .y rfl rfl (by omega) (by omega) | exact .o (by exact at_) (by omega) rfl (by exact nth_Skg) | exact .m (by exact at_) (by omega) (by exact mid_Skg) rfl rfl (by exact sz_Skg) | exact .mlen (by exact at_) rfl | exact .t (by exact at_) rfl rfl (by first | exact True.intro | rfl) (by assumption) | exact .f (by exact at_) rfl rfl (by first | exact True.intro | rfl) (by assumption) rfl | exact .t1 (by exact at_) rfl rfl (by first | exact True.intro | rfl) (by assumption) | exact .f1 (by exact at_) rfl rfl (by first | exact True.intro | rfl) (by assumption) rfl | exact .tk (by exact at_) rfl (by assumption) (by assumption) | exact .fk (by exact at_) rfl (by assumption) (by assumption) rfl | exact .tk1 (by exact at_) rfl (by assumption) (by assumption) | exact .fk1 (by exact at_) rfl (by assumption) (by assumption) rfl | exact .r rfl rfl (by omega) (by omega) (by exact nth_Skg) rfl | exact .s rfl (by omega) (by assumption) | exact at_ | assumption | exact .r rfl rfl | exact .h rfl rfl rfl (by omega) | exact .l rfl rfl rfl (by omega) (by omega) | exact .g rfl rfl rfl rfl (by omega) (by omega) | exact .h rfl rfl (toN_ (by omega)) (by omega) | exact .l rfl rfl (toN_ (by omega)) (by omega) (by omega) | exact .g rfl rfl (toN_ (by omega)) (toN_ (by omega)) (by omega) (by omega) | exact .o (by decide) | exact .f (by decide) | exact .n (by omega) (by first | decide | (show _ ≤ ((64 : Nat) : Int); omega)) | (constructor; (repeat (first | exact .t (by omega) | exact .f (by omega) | exact .u | exact .i (by omega) | exact .v (by omega) | exact .b (by omega) | exact .w | rfl | omega)); first | done | fail) | omega | (show _ ≤ ((64 : Nat) : Int); omega)) : φ := h
theorem pv_Skg {φ : Prop} (h : φ := by constructor; (repeat exact cl_Skg); first | done | fail) : φ := h
theorem su_Skg {φ ψ : Prop} (k : ψ) (h : Hide ψ → φ := by (intro k; (first | refine sl_pu (PuI.sep (by exact pv_Skg)) rfl ?_ | refine sl_yes rfl rfl ?_ | refine sl_no rfl rfl rfl ?_ | refine sl_off rfl rfl rfl ?_ | (fail)); exact k.out)) : φ := h ⟨k⟩
theorem sto_Skg {φ ψ : Prop} (k : ψ) (h : Hide ψ → φ := by (intro k; (first | refine sl_store rfl (by exact pick_) rfl rfl (by kernel_rfl) (by exact set_Skg) ?_ | refine sl_store_whole rfl (by exact pick_) rfl (by exact sz_Skg) (by exact sz_Skg) (by exact one_Skg) ?_); exact k.out)) : φ := h ⟨k⟩
theorem go_Skg {φ ψ : Prop} (k : ψ) (h : Hide ψ → φ := by (intro k; (repeat (first | refine su_Skg ?_ | refine so_ ?_ | refine sto_Skg ?_)); exact k.out)) : φ := h ⟨k⟩
set_option maxRecDepth 100000 in
theorem again_do {K Z : List Fa} {g n c : Nat} {A : Option Addr} {bs : List Int} {r : Rc} {α : Type} {φ : α → Prop} {vv : α → Value} {H : α → List Fa} (hz : Sub K Z) (h : Rd Z A n c bs) (hd : decR bs = .inr (r, 0))
    (hdo : ∀ (go : Nat) (x : Ag), Fn Tryz.prog (doId r) (doCaps go x r).toArray (doF x (goB go g :: K) r) (Ret φ vv H)) :
    Fn Tryz.prog 44 #[.pointer (some ⟨g, 0, none⟩), .slice A n c] K (Ret φ vv H) := by
  refine fn_enter Tryz.func44 rfl _ Tryz.ntmps44 (by simp) [(0, .pointer (some ⟨g, 0, none⟩)), (1, .slice A n c)] (args_of (by simp)) ?_
  refine go_Skg ?_
  refine sl_box rfl rfl rfl ?_; intro go
  refine go_Skg ?_
  refine sl_alloc rfl rfl rfl ?_; intro gd
  refine go_Skg ?_
  refine sl_call rfl rfl (by kernel_rfl) rfl Sub.refl (aread_ok (K := goB go g :: K) (gs := go) (gd := gd) (v0 := .nilFunc) (Sub.skip hz) h) ?_
  rintro x -
  have hx : agX bs x = none := by unfold agX; rw [hd]
  have hm2 : agM bs x = 0 := by unfold agM; rw [hd]
  have hH : agH go gd .nilFunc (goB go g :: K) bs x = doB gd (doV go x r) :: doF x (goB go g :: K) r := by unfold agH; rw [hd]
  rw [hx, hm2, hH, doV_eq]
  dsimp only [rdCode]
  rw [if_pos rfl]
  refine go_Skg ?_
  refine sl_call rfl rfl (doId_call r) rfl (Sub.skip Sub.refl) (hdo go x) ?_
  rintro y hy
  refine go_Skg ?_
  exact se_ret1 y hy rfl rfl Sub.refl
end Go.Proofs.YtocaabnbmcpjmaaGreat
/- Package bucket: rules; books over facts; Fits, Get, Rules. -/
namespace Go.Proofs.YtocaabnbmcpjmaaGreat
open Go.RowKit Go.MapKept
attribute [local irreducible] Go.Calls Go.Exit.then Go.Exit.inBlock Go.bodyPost Go.Code.wp Go.wpList
attribute [local irreducible] hashL ofId
/-- Rules. -/
structure Rl where
  w : Int
  mn : Int
  mx : Int
def Rl.c (r : Rl) : List Value := [.int .u64 r.w, .int .i64 r.mn, .int .i64 r.mx]
theorem Rl.one (r : Rl) : ∀ v ∈ r.c, v.oneCell' = true := by
  intro v hv
  simp only [Rl.c, List.mem_cons, List.not_mem_nil, or_false] at hv
  rcases hv with rfl | rfl | rfl <;> rfl
/-- Where a time's window begins. -/
def stN (w now : Int) : Int := if w = 0 then now else now / w * w
theorem stN_le {w now : Int} (hw : 0 ≤ w) (h : 0 ≤ now) : 0 ≤ stN w now ∧ stN w now ≤ now := by
  unfold stN
  split
  · omega
  · rename_i h0
    exact ⟨Int.mul_nonneg (Int.ediv_nonneg h hw) hw, Int.ediv_mul_le _ h0⟩
/-- May they be, of a task? -/
def rErr (r : Rl) (t : Ta) : Int := if t.err ≠ 0 then t.err else if r.w < 1 ∨ 1099511627776 < r.w then 6 else if r.mn < 1 ∨ r.mx < r.mn ∨ 256 < r.mx then 6 else 0
/-- A bucket. -/
structure BK where
  st : Int
  A : Option Addr
  c : Nat
  l : List Int
  m : Int
  k : Id
  cl : Bool
  bn : Nat
def bkC (st : Int) (T : List Value) (cl : Bool) : List Value := [.int .u64 st] ++ T ++ [.bool cl]
def BK.T (b : BK) : List Value := tc b.A b.l.length b.c b.m b.k
def BK.cells (b : BK) : List Value := bkC b.st b.T b.cl
theorem bkC_len {st : Int} {T : List Value} {cl : Bool} (h : T.length = 18) : (bkC st T cl).length = 20 := by simp [bkC, h]
theorem BK.len (b : BK) : b.cells.length = 20 := bkC_len tc_len
theorem bkC_one {st : Int} {T : List Value} {cl : Bool} (h : ∀ v ∈ T, v.oneCell' = true) : ∀ v ∈ bkC st T cl, v.oneCell' = true := by
  intro v hv
  simp only [bkC, List.cons_append, List.nil_append, List.mem_cons, List.mem_append, List.not_mem_nil, or_false] at hv
  rcases hv with rfl | hv | rfl
  · rfl
  · exact h v hv
  · rfl
theorem BK.one (b : BK) : ∀ v ∈ b.cells, v.oneCell' = true := bkC_one tc_one
theorem bkC_mid {st : Int} {T : List Value} {cl : Bool} : Mid (bkC st T cl) 1 T := Mid.of_append (a := [Value.int .u64 st]) rfl
theorem BK.mid (b : BK) : Mid b.cells 1 b.T := bkC_mid
theorem bkC_n0 {st : Int} {T : List Value} {cl : Bool} : nth (bkC st T cl) 0 = some (.int .u64 st) := rfl
theorem bkC_nT {st : Int} {T : List Value} {cl : Bool} {i : Nat} {v : Value} (h : nth T i = some v) : nth (bkC st T cl) (1 + i) = some v := nth_mid (pre := [Value.int .u64 st]) rfl h
theorem bkC_n2 {st : Int} {A : Option Addr} {n c : Nat} {m : Int} {k : Id} {cl : Bool} : nth (bkC st (tc A n c m k) cl) 2 = some (.int .i64 m) := bkC_nT (i := 1) tc_n1
theorem bkC_n1 {st : Int} {A : Option Addr} {n c : Nat} {m : Int} {k : Id} {cl : Bool} : nth (bkC st (tc A n c m k) cl) 1 = some (.slice A n c) := bkC_nT (i := 0) tc_n0
theorem bkC_n19 {st : Int} {T : List Value} {cl : Bool} (h : T.length = 18) : nth (bkC st T cl) 19 = some (.bool cl) := by
  rw [nth_eq]
  unfold bkC
  rw [List.getElem?_append_right (by simp [h])]
  simp [h]
theorem bkC_n19' {st : Int} {A : Option Addr} {n c : Nat} {m : Int} {k : Id} {cl : Bool} : nth (bkC st (tc A n c m k) cl) 19 = some (.bool cl) := bkC_n19 tc_len
theorem bkC_set19 {st : Int} {T : List Value} {cl cl' : Bool} (h : T.length = 18) : SetAt 19 (.bool cl') (bkC st T cl) (bkC st T cl') := by
  have h1 := SetAt.mk (i := 19) (v := .bool cl') (r := bkC st T cl) (by rw [bkC_len h]; decide)
  have h2 : (bkC st T cl).set 19 (.bool cl') = bkC st T cl' := by
    unfold bkC
    rw [List.set_append_right _ _ (by simp [h])]
    simp [h]
  rwa [h2] at h1
def BM : MK BK := ⟨fun b => .int .u64 b.st, fun b => .agg b.cells.toArray, fun b => b.bn, fun b => eo b.A b.l.length b.c b.l⟩
/-- A book. -/
def boC (t : Ta) (r : Rl) (m : Nat) : List Value := t.c ++ r.c ++ [.map (some m)]
theorem boC_mt {t : Ta} {r : Rl} {m : Nat} : Mid (boC t r m) 0 t.c := by
  unfold boC
  rw [List.append_assoc]
  exact Mid.head
theorem boC_mr {t : Ta} {r : Rl} {m : Nat} : Mid (boC t r m) 8 r.c := Mid.of_append (a := t.c) rfl
abbrev bB (g : Nat) (t : Ta) (r : Rl) (m : Nat) : Fa := blk g 152 (boC t r m)
abbrev bM (m : Nat) (fs : List BK) (ck : Nat) : Fa := kM BM m (.int .u64) fs ck
abbrev bS (fs : List BK) : Fa := kS BM fs
theorem bget {fs : List BK} {b : BK} (h : b ∈ fs) : MGet (fs.map BM.ent) (.int .u64 b.st) (.agg (bkC b.st (tc b.A b.l.length b.c b.m b.k) b.cl).toArray) := kget (M := BM) h
def bfind (fs : List BK) (s : Int) : Option BK := fs.find? (fun b => decide (b.st = s))
theorem bfind_some {fs : List BK} {s : Int} {b : BK} (h : bfind fs s = some b) : b ∈ fs ∧ b.st = s := ⟨List.mem_of_find?_eq_some h, by simpa using List.find?_some h⟩
theorem bfind_none {fs : List BK} {s : Int} (h : bfind fs s = none) : ∀ b ∈ fs, b.st ≠ s := fun b hb => by simpa using List.find?_eq_none.1 h b hb
theorem bno {fs : List BK} {s : Int} (h : bfind fs s = none) : MNo (fs.map BM.ent) (.int .u64 s) := kno (M := BM) fun b hb e => by
  have e' : Value.int .u64 b.st = .int .u64 s := e
  injection e' with _ e'
  exact bfind_none h b hb e'
/-- May a report of a time be added? -/
def fitsE (r : Rl) (fs : List BK) (now : Int) : Int := if 1099511627776 < now then 15 else match bfind fs (stN r.w now) with
  | none => if fs.length = 32 then 5 else if r.mx ≤ 0 then 18 else 0
  | some b => if b.cl then 16 else if r.mx ≤ b.m then 18 else 0
theorem nth_Gg {φ : Prop} (h : φ := by (first | rfl | first | exact bkC_n0 | exact bkC_n1 | exact bkC_n2 | exact bkC_n19' | exact tc_n0 | exact tc_n1)) : φ := h
theorem mid_Gg {φ : Prop} (h : φ := by (first | first | exact boC_mt | exact boC_mr | exact bkC_mid | exact Ta.mid _ | exact tc_mid | exact Mid.all | exact Mid.all | exact Mid.head)) : φ := h
theorem sz_Gg {φ : Prop} (h : φ := by (first | rfl | (first | (rw [bkC_len tc_len]; rfl) | rw [bkC_len tc_len] | rw [BK.len] | (rw [bytes_length, Id.len]; rfl) | (rw [tc_len]; rfl) | rw [tc_len, tc_len]; first | done | fail))) : φ := h
theorem one_Gg {φ : Prop} (h : φ := by (first | assumption | exact first | exact BK.one _ | exact bkC_one tc_one | exact tc_one | exact Ta.one _ | exact Rl.one _ | exact one_bytes _ | (simp only [List.mem_cons, List.not_mem_nil, or_false, forall_eq_or_imp, forall_eq]; decide) | exact one_bytes _ | (intro v hv; (repeat (rcases List.mem_cons.1 hv with rfl | hv; rfl)); cases hv))) : φ := h
theorem set_Gg {φ : Prop} (h : φ := by (first | (first | exact tc_set0 | exact bkC_set19 tc_len) | ((repeat (first | exact SetAt.here | apply SetAt.there)); first | done | fail))) : φ := h
theorem cl_Gg {φ : Prop} (h : φ := by first | rfl | exact .t | exact .f | exact .t (by omega) | exact .f (by omega) | exact .u | exact .i (by (first | exact .t (by omega) | exact .f (by omega) | exact .u | exact .i (by omega) | exact .v (by omega) | exact .b (by omega) | exact .w | rfl | omega)) | exact .v (by omega) | exact .b (by omega) | exact .q (by omega) | exact .w | exact .b (by exact at_) rfl (by exact nth_Gg) | exact .w (by exact at_) rfl rfl (by exact sz_Gg) | exact .s (by exact at_) (by exact mid_Gg) rfl rfl (by exact sz_Gg) | exact .z rfl rfl ⟨by kernel_rfl⟩ | exact .b rfl rfl ⟨by kernel_rfl⟩ | exact .a rfl rfl ⟨by kernel_rfl⟩ | exact .o rfl | exact .s | exact .n | exact .p rfl | exact .q rfl | exact .c rfl | exact .d rfl | exact .n rfl rfl (by omega) | exact .a rfl rfl (by omega) | exact .p rfl rfl (by omega) (by omega) | exact .y rfl rfl (by omega) (by omega) | exact .o (by exact at_) (by omega) rfl (by exact nth_Gg) | exact .m (by exact at_) (by omega) (by exact mid_Gg) rfl rfl (by exact sz_Gg) | exact .mlen (by exact at_) rfl | exact .t (by exact at_) rfl rfl (by first | exact True.intro | rfl) (by assumption) | exact .f (by exact at_) rfl rfl (by first | exact True.intro | rfl) (by assumption) rfl | exact .t1 (by exact at_) rfl rfl (by first | exact True.intro | rfl) (by assumption) | exact .f1 (by exact at_) rfl rfl (by first | exact True.intro | rfl) (by assumption) rfl | exact .r rfl rfl (by omega) (by omega) (by exact nth_Gg) rfl | exact .s rfl (by omega) (by assumption) | exact at_ | assumption | exact .r rfl rfl | exact .h rfl rfl rfl (by omega) | exact .l rfl rfl rfl (by omega) (by omega) | exact .g rfl rfl rfl rfl (by omega) (by omega) | exact .h rfl rfl (toN_ (by omega)) (by omega) | exact .l rfl rfl (toN_ (by omega)) (by omega) (by omega) | exact .g rfl rfl (toN_ (by omega)) (toN_ (by omega)) (by omega) (by omega) | exact .o (by decide) | exact .f (by decide) | exact .n (by omega) (by first | decide | (show _ ≤ ((64 : Nat) : Int); omega)) | (constructor; (repeat (first | exact .t (by omega) | exact .f (by omega) | exact .u | exact .i (by omega) | exact .v (by omega) | exact .b (by omega) | exact .w | rfl | omega)); first | done | fail) | omega | (show _ ≤ ((64 : Nat) : Int); omega)) : φ := h
theorem pv_Gg {φ : Prop} (h : φ := by constructor; (repeat exact cl_Gg); first | done | fail) : φ := h
theorem su_Gg {φ ψ : Prop} (k : ψ) (h : Hide ψ → φ := by (intro k; (first | refine sl_pu (PuI.sep (by exact pv_Gg)) rfl ?_ | refine sl_yes rfl rfl ?_ | refine sl_no rfl rfl rfl ?_ | refine sl_off rfl rfl rfl ?_ | (fail)); exact k.out)) : φ := h ⟨k⟩
theorem rq_Gg {φ ψ : Prop} (k : ψ) (h : Hide ψ → φ := by (intro k; (first | refine wq_pu (PuI.sep (by exact pv_Gg)) rfl ?_ | refine wq_yes rfl rfl ?_ | refine wq_no rfl rfl rfl ?_ | refine wq_off rfl rfl rfl ?_ | (fail)); exact k.out)) : φ := h ⟨k⟩
theorem sto_Gg {φ ψ : Prop} (k : ψ) (h : Hide ψ → φ := by (intro k; (first | refine sl_store rfl (by exact pick_) rfl rfl (by kernel_rfl) (by exact set_Gg) ?_ | refine sl_store_whole rfl (by exact pick_) rfl (by exact sz_Gg) (by exact sz_Gg) (by exact one_Gg) ?_); exact k.out)) : φ := h ⟨k⟩
theorem go_Gg {φ ψ : Prop} (k : ψ) (h : Hide ψ → φ := by (intro k; (repeat (first | refine su_Gg ?_ | refine so_ ?_ | refine sto_Gg ?_)); exact k.out)) : φ := h ⟨k⟩
set_option maxRecDepth 100000 in
theorem start_ok {K : List Fa} {r : Rl} {now : Int} (hw : 0 ≤ r.w) (h : 0 ≤ now ∧ now ≤ 18446744073709551615) :
    Fn Tryz.prog 35 #[.agg r.c.toArray, .int .u64 now] K (Ret (fun _ : Unit => True) (fun _ => .int .u64 (stN r.w now)) (fun _ => K)) := by
  refine fn_enter Tryz.func35 rfl _ Tryz.ntmps35 (by simp) [(0, .agg r.c.toArray), (1, .int .u64 now)] (args_of (by simp)) ?_
  have hs := stN_le hw h.1
  by_cases h0 : r.w = 0
  · rw [show stN r.w now = now by unfold stN; rw [if_pos h0]]
    refine go_Gg ?_
    refine sl_box rfl rfl rfl ?_; intro g1
    refine go_Gg ?_
    exact se_ret1 () trivial rfl rfl (by exact sub_)
  · have e : stN r.w now = now / r.w * r.w := by unfold stN; rw [if_neg h0]
    rw [e] at hs ⊢
    have hq : 0 ≤ now / r.w ∧ now / r.w ≤ now := ⟨Int.ediv_nonneg h.1 hw, Int.ediv_le_self _ h.1⟩
    refine go_Gg ?_
    refine sl_box rfl rfl rfl ?_; intro g1
    refine go_Gg ?_
    ((refine sq_region (by kernel_rfl) (by kernel_rfl) ?_; (repeat refine rq_Gg ?_); refine sq_end ?_))
    refine go_Gg ?_
    exact se_ret1 () trivial rfl rfl (by exact sub_)
set_option maxRecDepth 100000 in
set_option maxHeartbeats 2000000 in
theorem rcheck_ok {K : List Fa} {r : Rl} {t : Ta} :
    Fn Tryz.prog 20 #[.agg r.c.toArray, .agg t.c.toArray] K (Ret (fun _ : Unit => True) (fun _ => .int .i64 (rErr r t)) (fun _ => K)) := by
  refine fn_enter Tryz.func20 rfl _ Tryz.ntmps20 (by simp) [(0, .agg r.c.toArray), (1, .agg t.c.toArray)] (args_of (by simp)) ?_
  refine go_Gg ?_
  refine sl_box rfl rfl rfl ?_; intro g1
  refine go_Gg ?_
  refine sl_box rfl rfl rfl ?_; intro g2
  refine go_Gg ?_
  refine sl_call rfl rfl (by kernel_rfl) rfl (by exact sub_) (tcheck_ok t.kd t.fl t.bt t.ln t.wt t.ch t.np t.tag) ?_; rintro _ -
  by_cases ht : t.err = 0
  case neg =>
    rw [show rErr r t = t.err by unfold rErr; rw [if_pos ht], show tErr t.kd t.fl t.bt t.ln t.wt t.ch t.np t.tag = t.err from rfl]
    refine go_Gg ?_
    exact se_ret1 () trivial rfl rfl (by exact sub_)
  rw [show tErr t.kd t.fl t.bt t.ln t.wt t.ch t.np t.tag = 0 from ht]
  have he : rErr r t = if r.w < 1 ∨ 1099511627776 < r.w then 6 else if r.mn < 1 ∨ r.mx < r.mn ∨ 256 < r.mx then 6 else 0 := by unfold rErr; rw [if_neg (by simp [ht])]
  rw [he]
  obtain ⟨w, mn, mx⟩ := r
  dsimp only
  by_cases h1 : w < 1
  · rw [if_pos (.inl h1)]
    refine go_Gg ?_
    exact se_ret1 () trivial rfl rfl (by exact sub_)
  by_cases h2 : 1099511627776 < w
  · rw [if_pos (.inr h2)]
    refine go_Gg ?_
    exact se_ret1 () trivial rfl rfl (by exact sub_)
  rw [if_neg (by omega)]
  by_cases h3 : mn < 1
  · rw [if_pos (.inl h3)]
    refine go_Gg ?_
    exact se_ret1 () trivial rfl rfl (by exact sub_)
  by_cases h4 : mx < mn
  · rw [if_pos (.inr (.inl h4))]
    refine go_Gg ?_
    exact se_ret1 () trivial rfl rfl (by exact sub_)
  by_cases h5 : 256 < mx
  · rw [if_pos (.inr (.inr h5))]
    refine go_Gg ?_
    exact se_ret1 () trivial rfl rfl (by exact sub_)
  · rw [if_neg (by omega)]
    refine go_Gg ?_
    exact se_ret1 () trivial rfl rfl (by exact sub_)
set_option maxRecDepth 100000 in
set_option maxHeartbeats 2000000 in
theorem bnew_ok {K : List Fa} {r : Rl} {t : Ta} (h : rErr r t = 0) :
    Fn Tryz.prog 41 #[.agg t.c.toArray, .agg r.c.toArray] K (Ret (fun _ : Nat × Nat => True) (fun q => .tuple #[.pointer (some ⟨q.1, 0, none⟩), .int .i64 0]) (fun q => bB q.1 t r q.2 :: bM q.2 [] 0 :: bS [] :: K)) := by
  refine fn_enter Tryz.func41 rfl _ Tryz.ntmps41 (by simp) [(0, .agg t.c.toArray), (1, .agg r.c.toArray)] (args_of (by simp)) ?_
  refine go_Gg ?_
  refine sl_box rfl rfl rfl ?_; intro g1
  refine go_Gg ?_
  refine sl_box rfl rfl rfl ?_; intro g2
  refine go_Gg ?_
  refine sl_call rfl rfl (by kernel_rfl) rfl (by exact sub_) rcheck_ok ?_; rintro _ -
  rw [h]
  refine go_Gg ?_
  refine sl_makeMap (d := .int .u64) rfl ?_
  intro m
  refine sl_pu (pu_build (v := .agg (boC t r m).toArray) rfl (fun W => by kernel_rfl)) rfl ?_
  refine sl_box rfl rfl rfl ?_
  intro g
  refine go_Gg ?_
  exact se_ret2 (g, m) trivial rfl rfl rfl rfl (.cons .here (.cons .here (sub_star0 (by exact sub_))))
set_option maxRecDepth 100000 in
set_option maxHeartbeats 2000000 in
theorem bnew_no {K : List Fa} {r : Rl} {t : Ta} (h : rErr r t ≠ 0) :
    Fn Tryz.prog 41 #[.agg t.c.toArray, .agg r.c.toArray] K (Ret (fun _ : Unit => True) (fun _ => .tuple #[.pointer none, .int .i64 (rErr r t)]) (fun _ => K)) := by
  refine fn_enter Tryz.func41 rfl _ Tryz.ntmps41 (by simp) [(0, .agg t.c.toArray), (1, .agg r.c.toArray)] (args_of (by simp)) ?_
  refine go_Gg ?_
  refine sl_box rfl rfl rfl ?_; intro g1
  refine go_Gg ?_
  refine sl_box rfl rfl rfl ?_; intro g2
  refine go_Gg ?_
  refine sl_call rfl rfl (by kernel_rfl) rfl (by exact sub_) rcheck_ok ?_; rintro _ -
  generalize rErr r t = e at h ⊢
  refine go_Gg ?_
  exact se_ret2 () trivial rfl rfl rfl rfl (by exact sub_)
end Go.Proofs.YtocaabnbmcpjmaaGreat
