/- Several texts of one claim, one behind the other (Pa, Pt, Pb, Sv). -/
import Derived.Test.YtidphdlhghgglaaB09
import Derived.Test.YtidphdlhghgglaaB10
import Derived.Test.YtidphdlhghgglaaB06
import Derived.Test.YtidphdlhghgglaaB01
import Derived.ChangeArms
/- Part: over facts. -/
namespace Go.Proofs.Ytidphdlhghgglaa
open Go.RowKit
attribute [local irreducible] Go.Calls Go.Exit.then Go.Exit.inBlock Go.bodyPost Go.Code.wp Go.wpList
theorem zero_n : fnan 0 = false := nan_pos (by decide)
theorem one_w : fiN 1 = 4607182418800017408 := by decide +kernel
theorem fv_one : fv 4607182418800017408 = (uN : Nat) := by
  have := (fiN_all 1 (by decide)).1
  rw [one_w, Nat.one_mul] at this
  exact this
theorem one_n : fnan 4607182418800017408 = false := nan_pos (by decide)
theorem FOp.same {o : BinOp} {a b r r' : Nat} (h : FOp o a b r) (h' : FOp o a b r') : Jst r r' := by
  rcases h.2 with h3 | h3 <;> rcases h'.2 with h4 | h4
  · rw [h3] at h4
    injection h4 with h4
    exact .inl h4
  · rw [h3] at h4
    cases h4.1
  · rw [h4] at h3
    cases h3.1
  · exact .inr ⟨h3.2, h4.2⟩
def ApOk (a : Nat) : Prop := 0 < a ∧ a ≤ maxF
theorem ap_nn {a : Nat} (h : ApOk a) : fnan a = false := nan_pos (Nat.le_trans h.2 (by decide))
/-- What is said of a place. -/
def PartR (d : List Fp) (a i r : Nat) : Prop := ∃ x : Fp, d[i]? = some x ∧
  (((fv a = (i * uN : Nat) ∨ i + 1 = d.length) ∧ r = x.x) ∨
   (¬ (fv a = (i * uN : Nat) ∨ i + 1 = d.length) ∧ ∃ (y : Fp) (ap : Nat), d[i + 1]? = some y ∧ FOp .sub y.x x.x ap ∧ ((¬ ApOk ap ∧ r = x.x) ∨ (ApOk ap ∧ ∃ t m, FOp .sub a (fiN i) t ∧ FOp .mul ap t m ∧ FOp .add x.x m r))))
theorem part_one {d : List Fp} {a i r r' : Nat} (h : PartR d a i r) (h' : PartR d a i r') : Jst r r' := by
  obtain ⟨x, hx, h⟩ := h
  obtain ⟨x', hx', h'⟩ := h'
  rw [hx] at hx'
  injection hx' with hx'
  subst hx'
  rcases h with ⟨c1, rfl⟩ | ⟨c1, y, ap, hy, hs, h⟩
  · rcases h' with ⟨_, rfl⟩ | ⟨c2, _⟩
    · exact Jst.refl _
    · exact absurd c1 c2
  · rcases h' with ⟨c2, _⟩ | ⟨c2, y', ap', hy', hs', h'⟩
    · exact absurd c2 c1
    · rw [hy] at hy'
      injection hy' with hy'
      subst hy'
      have hj := hs.same hs'
      have hok : ApOk ap ↔ ApOk ap' := by
        rcases hj with rfl | ⟨n1, n2⟩
        · exact Iff.rfl
        · exact ⟨fun h => (by have := ap_nn h; rw [n1] at this; cases this), fun h => (by have := ap_nn h; rw [n2] at this; cases this)⟩
      rcases h with ⟨b, rfl⟩ | ⟨b, t, m, g1, g2, g3⟩
      · rcases h' with ⟨_, rfl⟩ | ⟨b', _⟩
        · exact Jst.refl _
        · exact absurd (hok.2 b') b
      · rcases h' with ⟨b', _⟩ | ⟨b', t', m', g1', g2', g3'⟩
        · exact absurd (hok.1 b) b'
        · exact FOp.jst (.inl rfl) (Jst.refl _) (FOp.jst (.inr (.inl rfl)) hj (g1.same g1') g2 g2') g3 g3'
theorem part_lt {d : List Fp} {a i r : Nat} (h : PartR d a i r) : r < 18446744073709551616 := by
  obtain ⟨x, _, ⟨_, rfl⟩ | ⟨_, y, ap, _, _, ⟨_, rfl⟩ | ⟨_, t, m, _, _, g3⟩⟩⟩ := h
  · exact x.lt
  · exact x.lt
  · exact g3.1
theorem ap_cls {x y : Fp} {ap : Nat} (hk : key x.x ≤ key y.x) (h : FOp .sub y.x x.x ap) : fnan ap = true ∨ ap = 0 ∨ (0 < ap ∧ ap ≤ 9218868437227405312) := by
  have hw : ∀ r, subF y.x x.x = some r → ap = r ∨ fnan ap = true := fun r hr => by
    rcases h.2 with h1 | h1
    · rw [show floatBits .sub .f64 y.x x.x = subF y.x x.x from rfl, hr] at h1
      injection h1 with h1
      exact .inl h1.symm
    · exact .inr h1.2
  have hn : subF y.x x.x = none → fnan ap = true := fun hr => by
    rcases h.2 with h1 | h1
    · rw [show floatBits .sub .f64 y.x x.x = subF y.x x.x from rfl, hr] at h1
      cases h1
    · exact h1.2
  by_cases hv : fv x.x < fv y.x
  · obtain ⟨wd, e, w0, w1, _⟩ := sub_pos ⟨x.lt, x.nn⟩ ⟨y.lt, y.nn⟩ hv
    rcases hw _ e with rfl | h
    · exact .inr (.inr ⟨w0, w1⟩)
    · exact .inl h
  have hkk : fv x.x = fv y.x ∧ (fneg y.x = true → fneg x.x = true) := by
    unfold key at hk
    cases h1 : fneg x.x <;> cases h2 : fneg y.x <;> rw [h1, h2] at hk <;> simp at hk ⊢ <;> omega
  obtain ⟨he, hs⟩ := hkk
  rw [← fneg_read x.lt, ← fneg_read y.lt] at hs
  rw [subF_eq] at hw hn
  rcases inf_of x.nn with ⟨s, e⟩ | ⟨s, m, i, e, hi⟩
  · rcases inf_of y.nn with ⟨t, e'⟩ | ⟨t, n, j, e', hj⟩
    · rw [fv_inf e, fv_inf e'] at he
      have hb := bigI
      obtain rfl : s = t := by
        cases s <;> cases t <;> simp at he ⊢ <;> omega
      refine .inl (hn ?_)
      rw [e, e']
      cases s <;> rfl
    · have := fv_fin e'
      rw [fv_inf e] at he
      cases s <;> simp at he <;> omega
  · rcases inf_of y.nn with ⟨t, e'⟩ | ⟨t, n, j, e', hj⟩
    · have := fv_fin e
      rw [fv_inf e'] at he
      cases t <;> simp at he <;> omega
    · rw [fv_num e, fv_num e'] at he
      rw [e, e'] at hs
      have hs' : t = true → s = true := hs
      have hz : ((Ieee.double.read y.x).sum (Ieee.double.read x.x).opposite).map Ieee.double.write = some 0 := by
        rw [e, e']
        show some (Ieee.double.write (.number (if Ieee.signed t n (j - min j i).toNat + Ieee.signed (!s) m (i - min j i).toNat = 0 then t && !s else decide (Ieee.signed t n (j - min j i).toNat + Ieee.signed (!s) m (i - min j i).toNat < 0)) (Ieee.signed t n (j - min j i).toNat + Ieee.signed (!s) m (i - min j i).toNat).natAbs (min j i))) = _
        obtain ⟨k, hk⟩ : ∃ k : Nat, min j i = (k : Int) - 1074 := ⟨(min j i + 1074).toNat, by omega⟩
        rw [hk]
        have h1 : Ieee.signed s m (i + 1074).toNat = Ieee.signed t n (j + 1074).toNat := he
        rw [show (i + 1074).toNat = (i - ((k : Int) - 1074)).toNat + k by omega, show (j + 1074).toNat = (j - ((k : Int) - 1074)).toNat + k by omega, signed_add, signed_add] at h1
        have hpos : (0 : Int) < 2 ^ k := Int.pow_pos (by decide)
        have h2 : Ieee.signed s m (i - ((k : Int) - 1074)).toNat = Ieee.signed t n (j - ((k : Int) - 1074)).toNat := Int.eq_of_mul_eq_mul_right (by omega) h1
        rw [signed_not, h2, if_pos (by omega), show (Ieee.signed t n (j - ((k : Int) - 1074)).toNat + -Ieee.signed t n (j - ((k : Int) - 1074)).toNat).natAbs = 0 by omega]
        have : (t && !s) = false := by
          cases t
          · rfl
          · rw [hs' rfl]
            rfl
        rw [this]
        rfl
      rcases hw _ hz with rfl | h
      · exact .inr (.inl rfl)
      · exact .inl h
theorem rung_lt {ap : Nat} (h : ap ≤ 9218868437227405312) : fLt maxF ap = decide (maxF < ap) := by
  rw [fLt_of (nan_pos (by decide)) (nan_pos h), fv_pos (by decide), fv_pos h, decide_eq_decide]
  constructor
  · intro h1
    refine Nat.lt_of_not_le fun h2 => ?_
    have := fvR_le (r := ap) (s := maxF) (by decide) h2
    omega
  · intro h1
    have := fvR_lt (r := maxF) h h1
    omega
section
variable {P : Program} {ops : Array Oper} {Q : Exit → Act → World → Prop} {n : Nat} {l : Env} {L : List Fa} {rest : List Oper} {d : Tmp} {t t' ty : TypeId} {pos : String} {after : Array Edge} {x y : Operand} {a b : Nat}
theorem sl_fos (hx : ev l x = some (.float .f64 a)) (hy : ev l y = some (.float .f64 b)) (hd : Nat.blt d n = true) (h1 : ∀ r, FOp .sub a b r → SL P ops Q rest n ((d, .float .f64 r) :: l) L) :
    SL P ops Q (⟨some d, .binOp .sub t x y t', ty, pos, after, none⟩ :: rest) n l L :=
  sl_fsub hx hy hd (fun r hr => h1 r ⟨sub_lt hr, .inl hr⟩) (fun h r hn hl => h1 r ⟨hl, .inr ⟨h, hn⟩⟩)
end
theorem nth_Pa {φ : Prop} (h : φ := by (first | rfl | assumption)) : φ := h
theorem mid_Pa {φ : Prop} (h : φ := by (first | exact Mid.all | exact Mid.all | exact Mid.head)) : φ := h
theorem sz_Pa {φ : Prop} (h : φ := by (first | rfl | (rfl; first | done | fail))) : φ := h
theorem one_Pa {φ : Prop} (h : φ := by (first | assumption | exact first | exact one_bytes _ | (simp only [List.mem_cons, List.not_mem_nil, or_false, forall_eq_or_imp, forall_eq]; decide) | exact one_bytes _)) : φ := h
theorem set_Pa {φ : Prop} (h : φ := by (first | (fail) | ((repeat (first | exact SetAt.here | apply SetAt.there)); first | done | fail))) : φ := h
theorem cl_Pa {φ : Prop} (h : φ := by first | rfl | exact .t | exact .f | exact .t (by omega) | exact .f (by omega) | exact .u | exact .i (by (first | exact .t (by omega) | exact .f (by omega) | exact .u | exact .i (by omega) | exact .v (by omega) | exact .b (by omega) | exact .w | rfl | omega)) | exact .v (by omega) | exact .b (by omega) | exact .q (by omega) | exact .w | exact .b (by exact at_) rfl (by exact nth_Pa) | exact .w (by exact at_) rfl rfl (by exact sz_Pa) | exact .s (by exact at_) (by exact mid_Pa) rfl rfl (by exact sz_Pa) | exact .z rfl rfl ⟨by kernel_rfl⟩ | exact .b rfl rfl ⟨by kernel_rfl⟩ | exact .a rfl rfl ⟨by kernel_rfl⟩ | exact .o rfl | exact .s | exact .n | exact .p rfl | exact .q rfl | exact .c rfl | exact .d rfl | exact .n rfl rfl (by omega) | exact .a rfl rfl (by omega) | exact .p rfl rfl (by omega) (by omega) | exact .y rfl rfl (by omega) (by omega) | exact .o (by exact at_) (by omega) rfl (by exact nth_Pa) | exact .m (by exact at_) (by omega) (by exact mid_Pa) rfl rfl (by exact sz_Pa) | exact .mlen (by exact at_) rfl | exact .t (by exact at_) rfl rfl (by first | exact True.intro | rfl) (by assumption) | exact .f (by exact at_) rfl rfl (by first | exact True.intro | rfl) (by assumption) rfl | exact .t1 (by exact at_) rfl rfl (by first | exact True.intro | rfl) (by assumption) | exact .f1 (by exact at_) rfl rfl (by first | exact True.intro | rfl) (by assumption) rfl | exact .r rfl rfl (by omega) (by omega) (by exact nth_Pa) rfl | exact .s rfl (by omega) (by assumption) | exact at_ | assumption | exact .r rfl rfl | exact .h rfl rfl rfl (by omega) | exact .l rfl rfl rfl (by omega) (by omega) | exact .g rfl rfl rfl rfl (by omega) (by omega) | exact .h rfl rfl (toN_ (by omega)) (by omega) | exact .l rfl rfl (toN_ (by omega)) (by omega) (by omega) | exact .g rfl rfl (toN_ (by omega)) (toN_ (by omega)) (by omega) (by omega) | exact .o (by decide) | exact .f (by decide) | exact .n (by omega) (by first | decide | (show _ ≤ ((64 : Nat) : Int); omega)) | (constructor; (repeat (first | exact .t (by omega) | exact .f (by omega) | exact .u | exact .i (by omega) | exact .v (by omega) | exact .b (by omega) | exact .w | rfl | omega)); first | done | fail) | omega | (show _ ≤ ((64 : Nat) : Int); omega)) : φ := h
theorem pv_Pa {φ : Prop} (h : φ := by constructor; (repeat exact cl_Pa); first | done | fail) : φ := h
theorem su_Pa {φ ψ : Prop} (k : ψ) (h : Hide ψ → φ := by (intro k; (first | refine sl_pu (PuI.sep (by exact pv_Pa)) rfl ?_ | refine sl_yes rfl rfl ?_ | refine sl_no rfl rfl rfl ?_ | refine sl_off rfl rfl rfl ?_ | (first | refine sl_pu (pu_fnn rfl rfl (by with_reducible assumption)) rfl ?_ | refine sl_pu (pu_fls rfl rfl (by with_reducible assumption)) rfl ?_ | refine sl_pu (pu_fgt rfl rfl (by with_reducible assumption)) rfl ?_ | refine sl_pu (pu_fe rfl rfl (by with_reducible assumption)) rfl ?_ | refine sl_pu (pu_fle rfl rfl (by with_reducible assumption)) rfl ?_ | refine sl_pu (pu_fmul rfl rfl (by with_reducible assumption)) rfl ?_ | refine sl_pu (pu_f2i rfl rfl rfl (by with_reducible assumption)) rfl ?_ | refine sl_pu (pu_i2f rfl rfl rfl) rfl ?_)); exact k.out)) : φ := h ⟨k⟩
theorem rq_Pa {φ ψ : Prop} (k : ψ) (h : Hide ψ → φ := by (intro k; (first | refine wq_pu (PuI.sep (by exact pv_Pa)) rfl ?_ | refine wq_yes rfl rfl ?_ | refine wq_no rfl rfl rfl ?_ | refine wq_off rfl rfl rfl ?_ | (fail)); exact k.out)) : φ := h ⟨k⟩
theorem sto_Pa {φ ψ : Prop} (k : ψ) (h : Hide ψ → φ := by (intro k; (first | refine sl_store rfl (by exact pick_) rfl rfl (by kernel_rfl) (by exact set_Pa) ?_ | refine sl_store_whole rfl (by exact pick_) rfl (by exact sz_Pa) (by exact sz_Pa) (by exact one_Pa) ?_); exact k.out)) : φ := h ⟨k⟩
theorem go_Pa {φ ψ : Prop} (k : ψ) (h : Hide ψ → φ := by (intro k; (repeat (first | refine su_Pa ?_ | refine so_ ?_ | refine sto_Pa ?_)); exact k.out)) : φ := h ⟨k⟩
def pCode (p : Nat) : Int := if fnan p then 28 else if fLt p 0 || fLt 4607182418800017408 p then 6 else 0
set_option maxRecDepth 100000 in
set_option maxHeartbeats 4000000 in
theorem part_err {K : List Fa} {A : Option Addr} {n c p : Nat} (hc : pCode p ≠ 0) :
    Fn Try.prog 18 #[.slice A n c, .float .f64 p] K (Ret (fun _ : Unit => True) (fun _ => .tuple #[.float .f64 0, .int .i64 (pCode p)]) (fun _ => K)) := by
  refine fn_enter Try.func18 rfl _ Try.ntmps18 (by simp) [(0, .slice A n c), (1, .float .f64 p)] (args_of (by simp)) ?_
  refine go_Pa ?_
  refine sl_call rfl rfl (by kernel_rfl) rfl Sub.refl (fn_same (isNaN_c p)) ?_
  rintro _ -
  cases h1 : fnan p with
  | true =>
    rw [show pCode p = 28 by simp [pCode, h1]]
    refine go_Pa ?_
    exact se_ret2 () trivial rfl rfl rfl rfl (by exact sub_)
  | false =>
  cases h2 : fLt p 0 with
  | true =>
    rw [show pCode p = 6 by simp [pCode, h1, h2]]
    refine go_Pa ?_
    exact se_ret2 () trivial rfl rfl rfl rfl (by exact sub_)
  | false =>
  cases h3 : fLt 4607182418800017408 p with
  | true =>
    rw [show pCode p = 6 by simp [pCode, h1, h2, h3]]
    refine go_Pa ?_
    exact se_ret2 () trivial rfl rfl rfl rfl (by exact sub_)
  | false => exact absurd (by simp [pCode, h1, h2, h3]) hc
theorem pCode_0 {p : Nat} (h : pCode p = 0) : fnan p = false ∧ fLt p 0 = false ∧ fLt 4607182418800017408 p = false ∧ 0 ≤ fv p ∧ fv p ≤ (uN : Nat) := by
  unfold pCode at h
  split at h
  · cases h
  · rename_i h1
    split at h
    · cases h
    · rename_i h2
      simp only [Bool.or_eq_true, not_or, Bool.not_eq_true] at h1 h2
      have h3 := h2.1
      have h4 := h2.2
      rw [fLt_of h1 zero_n, fv_0, decide_eq_false_iff_not] at h3
      rw [fLt_of one_n h1, fv_one, decide_eq_false_iff_not] at h4
      exact ⟨h1, h2.1, h2.2, by omega, by omega⟩
structure Pg where
  d : List Fp
  r : Nat
  i : Nat
set_option maxRecDepth 100000 in
set_option maxHeartbeats 8000000 in
theorem part_ok {K : List Fa} {A : Option Addr} {c p a : Nat} {xs : List Nat} (hr : Vw K (fun w => Reads w 1 A xs.length (xs.map fl))) (hb : ∀ x ∈ xs, x < 18446744073709551616) (hn : xs.length ≤ 60) (hc : pCode p = 0) (ha : 0 < (numsOf xs).length → mulF p (fiN ((numsOf xs).length - 1)) = some a ∧ Wd a ∧ 0 ≤ fv a ∧ fv a ≤ (((numsOf xs).length - 1) * uN : Nat)) :
    Fn Try.prog 18 #[.slice A xs.length c, .float .f64 p] K (Ret (fun q : Pg => (numsOf xs = [] ∧ q.r = 9221120237041090561) ∨ (q.d.Perm (numsOf xs) ∧ q.d.Pairwise (fun a b => key a.x ≤ key b.x) ∧ 0 < (numsOf xs).length ∧ (q.i * uN : Nat) ≤ fv a ∧ fv a < ((q.i + 1) * uN : Nat) ∧ PartR q.d a q.i q.r)) (fun q => .tuple #[.float .f64 q.r, .int .i64 0]) (fun _ => K)) := by
  refine fn_enter Try.func18 rfl _ Try.ntmps18 (by simp) [(0, .slice A xs.length c), (1, .float .f64 p)] (args_of (by simp)) ?_
  obtain ⟨h1, h2, h3, h4, h5⟩ := pCode_0 hc
  refine go_Pa ?_
  refine sl_call rfl rfl (by kernel_rfl) rfl Sub.refl (fn_same (isNaN_c p)) ?_
  rintro _ -
  rw [h1]
  refine go_Pa ?_
  refine sc_bjoin (fun q : Sg => [(1, .float .f64 p), (6, .slice q.A (numsOf xs).length q.c)]) (fun q => own 24 1 q.A (numsOf xs).length q.c ((numsOf xs).map Fp.v) :: K) (fun _ => True) ?_ ?_
  · refine sc_for (fun p' : Sg => [(1, .float .f64 p), (6, .slice p'.A (numsOf (xs.take p'.j)).length p'.c), (29, .slice A xs.length c), (30, .int .i64 xs.length), (31, .int .i64 p'.j)]) (fun p' => own 24 1 p'.A (numsOf (xs.take p'.j)).length p'.c ((numsOf (xs.take p'.j)).map Fp.v) :: K) (fun p' => p'.j ≤ xs.length) (fun p' => xs.length - p'.j) ⟨0, none, 0⟩ (by exact has_) (Sub.own_nil (by exact sub_)) (Nat.zero_le _) ?_
    rintro ⟨j, A1, c1⟩ hj
    dsimp only at hj ⊢
    by_cases hlt : j < xs.length
    case neg =>
      obtain rfl : j = xs.length := by omega
      rw [List.take_length]
      refine go_Pa ?_
      exact se_mid ⟨xs.length, A1, c1⟩ (by exact has_) (by exact sub_) trivial
    have hlen := nums_len (xs.take j)
    rw [List.length_take] at hlen
    have htk : xs.take (j + 1) = xs.take j ++ [xs[j]] := List.take_succ_eq_append_getElem hlt
    have hxb := hb _ (List.getElem_mem hlt)
    have hnx : nth (xs.map fl) (j * 1) = some (.float .f64 xs[j]) := by
      rw [nth_eq, Nat.mul_one, List.getElem?_map, List.getElem?_eq_getElem hlt]
      rfl
    refine sc_know (vw_form (L := own 24 1 A1 (numsOf (xs.take j)).length c1 ((numsOf (xs.take j)).map Fp.v) :: K) (hr.mono (by exact sub_)) (by omega)) ?_
    rintro ⟨ad, rfl⟩
    refine go_Pa ?_
    refine sl_pu (pu_ldr (hr.mono (by exact sub_)) (by omega) rfl rfl hnx) rfl ?_
    refine go_Pa ?_
    refine sl_call rfl rfl (by kernel_rfl) rfl Sub.refl (fn_same (isNaN_c _)) ?_
    rintro _ -
    cases hx : fnan xs[j] with
    | true =>
      have hsame : numsOf (xs.take (j + 1)) = numsOf (xs.take j) := by
        rw [htk, nums_app, nums_cons, dif_neg (by rw [hx]; simp)]
        exact List.append_nil _
      refine go_Pa ?_
      refine se_round ⟨j + 1, A1, c1⟩ (by rw [hsame]; exact has_) (by rw [hsame]; exact sub_) hlt (by show xs.length - (j + 1) < xs.length - j; omega)
    | false =>
      have hnew : numsOf (xs.take (j + 1)) = numsOf (xs.take j) ++ [⟨xs[j], hx, hxb⟩] := by
        rw [htk, nums_app, nums_cons, dif_pos ⟨hx, hxb⟩]
        rfl
      refine go_Pa ?_
      refine sl_build (size := 1) (e := 24) (cells := [Value.float .f64 xs[j]]) rfl (fun W => by kernel_rfl) rfl (by decide) rfl ?_
      intro gb
      refine sl_app (A := A1) (k := (numsOf (xs.take j)).length) (c := c1) rfl (by exact pick_) rfl (Vw.of_own (e := 24) (A := some ⟨gb, 0, none⟩) (c := 1) (by exact at_)) fl_one rfl infoF64 (by decide) (by decide) rfl (by unfold maxLen; omega) (by omega) ?_
      intro A2 c2
      rw [show (numsOf (xs.take j)).map Fp.v ++ [Value.float .f64 xs[j]] = (numsOf (xs.take (j + 1))).map Fp.v by rw [hnew, List.map_append]; rfl, show (numsOf (xs.take j)).length + 1 = (numsOf (xs.take (j + 1))).length by rw [hnew, List.length_append]; rfl]
      refine go_Pa ?_
      refine se_round ⟨j + 1, A2, c2⟩ (by exact has_) (by exact sub_) hlt (by show xs.length - (j + 1) < xs.length - j; omega)
  rintro ⟨j, A1, c1⟩ -
  dsimp only
  have hlen := nums_len xs
  by_cases h0 : (numsOf xs).length = 0
  · have h00 := List.eq_nil_of_length_eq_zero h0
    refine go_Pa ?_
    refine sl_call rfl rfl (by kernel_rfl) rfl Sub.refl (fn_same nan_c) ?_
    rintro _ -
    refine go_Pa ?_
    exact se_ret2 (⟨[], 9221120237041090561, 0⟩ : Pg) (.inl ⟨h00, rfl⟩) rfl rfl rfl rfl (by exact sub_)
  obtain ⟨hm, wa, a0, a1⟩ := ha (by omega)
  refine go_Pa ?_
  refine sl_call rfl rfl (by kernel_rfl) rfl Sub.refl (sortf_ok (by omega)) ?_
  rintro d ⟨hp, hs⟩
  have hdl := hp.length_eq
  rw [← hdl] at hm a1 h0 ⊢
  have hu := uN_pos
  obtain ⟨i, hi⟩ : ∃ i, (fv a).toNat / uN = i := ⟨_, rfl⟩
  have hq1 := Nat.div_mul_le_self (fv a).toNat uN
  have hq2 := Nat.lt_div_mul_add (a := (fv a).toNat) hu
  rw [hi] at hq1 hq2
  have hsu : (i + 1) * uN = i * uN + uN := Nat.succ_mul _ _
  have hin : i < d.length := by
    refine Nat.lt_of_not_le fun h => ?_
    have h6 : d.length * uN ≤ i * uN := Nat.mul_le_mul_right _ h
    have h7 : (d.length - 1) * uN + uN = d.length * uN := by rw [← Nat.succ_mul, show (d.length - 1).succ = d.length by omega]
    omega
  have hlo : (i * uN : Nat) ≤ fv a := by omega
  have hhi : fv a < ((i + 1) * uN : Nat) := by omega
  rw [← i2f_fiN, show ((d.length - 1 : Nat) : Int) = (d.length : Int) - 1 by omega] at hm
  have hgi := fiN_all i (by omega)
  have hflo : floatToIntVal .f64 (floF a) .i64 = some (i : Int) ∧ fEq a (floF a) = decide (fv a = (i * uN : Nat)) ∧ (fv a ≠ (i * uN : Nat) → floF a = fiN i) := by
    rcases floF_in (j := i) wa.lt wa.nn (by omega) hlo hhi with e | ⟨e0, e1, e⟩
    · rw [e]
      refine ⟨f2i_all i (by omega), ?_, fun _ => rfl⟩
      rw [fEq_of wa.nn (nan_pos hgi.2), hgi.1]
    · subst e0
      have h8 : fv 9223372036854775808 = 0 := by
        have := fv_neg (r := 0) (by decide)
        rw [show 9223372036854775808 + 0 = 9223372036854775808 from rfl, show fvR 0 = 0 by decide] at this
        exact this
      have h7 : fnan 9223372036854775808 = false := nan_neg (r := 0) (by decide)
      rw [e, e1]
      refine ⟨f2i_m0, ?_, fun h => absurd ?_ h⟩
      · rw [fEq_of h7 h7, h8, Nat.zero_mul]
        rfl
      · rw [h8, Nat.zero_mul]
        rfl
  obtain ⟨f1, f2, f3⟩ := hflo
  have hdi : d[i]? = some d[i] := List.getElem?_eq_getElem hin
  have hni := fp_nth hin
  refine sl_form (e := 24) (size := 1) (A := A1) (m := d.length) (by exact at_) (by omega) ?_
  rintro g rfl
  refine go_Pa ?_
  refine sl_call rfl rfl (by kernel_rfl) rfl Sub.refl (floor_ok wa.nn) ?_
  rintro _ -
  by_cases hst : fv a = (i * uN : Nat) ∨ i + 1 = d.length
  · have hres : PartR d a i d[i].x := ⟨d[i], hdi, .inl ⟨hst, rfl⟩⟩
    by_cases hl1 : i + 1 = d.length
    · refine go_Pa ?_
      exact se_ret2 (⟨d, d[i].x, i⟩ : Pg) (.inr ⟨hp, hs, by omega, hlo, hhi, hres⟩) rfl rfl rfl rfl (by exact sub_)
    · rw [decide_eq_true (hst.resolve_right hl1)] at f2
      refine go_Pa ?_
      exact se_ret2 (⟨d, d[i].x, i⟩ : Pg) (.inr ⟨hp, hs, by omega, hlo, hhi, hres⟩) rfl rfl rfl rfl (by exact sub_)
  have hne : fv a ≠ (i * uN : Nat) := fun h => hst (.inl h)
  have hl1 : i + 1 < d.length := by
    rcases Nat.lt_or_ge (i + 1) d.length with h | h
    · exact h
    · exact absurd (.inr (by omega)) hst
  rw [decide_eq_false hne] at f2
  have hfe := f3 hne
  have hdj : d[i + 1]? = some d[i + 1] := List.getElem?_eq_getElem hl1
  have hnj := fp_nth hl1
  have hkk : key d[i].x ≤ key d[i + 1].x := List.pairwise_iff_getElem.1 hs i (i + 1) hin hl1 (by omega)
  rw [hfe] at f1 f2 ⊢
  refine go_Pa ?_
  refine sl_fos rfl rfl rfl (fun ap hap => ?_)
  have hbad : ¬ ApOk ap → PartR d a i d[i].x := fun h => ⟨d[i], hdi, .inr ⟨hst, d[i + 1], ap, hdj, hap, .inl ⟨h, rfl⟩⟩⟩
  rcases ap_cls hkk hap with hna | rfl | ⟨p0, p1⟩
  · have e1 : fEq ap 0 = false := fEq_nan (.inl hna)
    have e2 : fLt maxF (absF ap) = false := fLt_nan (.inr (by rw [nan_abs]; exact hna))
    refine go_Pa ?_
    refine sl_call rfl rfl (by kernel_rfl) rfl Sub.refl (isInf_ok hap.1) ?_
    rintro _ -
    rw [e2]
    refine go_Pa ?_
    refine sl_call rfl rfl (by kernel_rfl) rfl Sub.refl (fn_same (isNaN_c ap)) ?_
    rintro _ -
    rw [hna]
    refine go_Pa ?_
    exact se_ret2 (⟨d, d[i].x, i⟩ : Pg) (.inr ⟨hp, hs, by omega, hlo, hhi, hbad fun h => by have := ap_nn h; rw [hna] at this; cases this⟩) rfl rfl rfl rfl (by exact sub_)
  · have e1 : fEq 0 0 = true := fEq_self zero_n
    refine go_Pa ?_
    exact se_ret2 (⟨d, d[i].x, i⟩ : Pg) (.inr ⟨hp, hs, by omega, hlo, hhi, hbad fun h => absurd h.1 (Nat.lt_irrefl _)⟩) rfl rfl rfl rfl (by exact sub_)
  · have e1 : fEq ap 0 = false := by
      rw [fEq_of (nan_pos p1) zero_n, fv_0, fv_pos p1, decide_eq_false_iff_not]
      have := fvR_lt p1 p0
      have e0 : fvR 0 = 0 := by decide
      omega
    have e3 : absF ap = ap := Nat.mod_eq_of_lt (by omega)
    have e2 := rung_lt p1
    by_cases hmx : maxF < ap
    · rw [decide_eq_true hmx] at e2
      refine go_Pa ?_
      refine sl_call rfl rfl (by kernel_rfl) rfl Sub.refl (isInf_ok hap.1) ?_
      rintro _ -
      rw [e3, e2]
      refine go_Pa ?_
      exact se_ret2 (⟨d, d[i].x, i⟩ : Pg) (.inr ⟨hp, hs, by omega, hlo, hhi, hbad fun h => absurd h.2 (by omega)⟩) rfl rfl rfl rfl (by exact sub_)
    · rw [decide_eq_false hmx] at e2
      refine go_Pa ?_
      refine sl_call rfl rfl (by kernel_rfl) rfl Sub.refl (isInf_ok hap.1) ?_
      rintro _ -
      rw [e3, e2]
      refine go_Pa ?_
      refine sl_call rfl rfl (by kernel_rfl) rfl Sub.refl (fn_same (isNaN_c ap)) ?_
      rintro _ -
      rw [nan_pos p1]
      refine go_Pa ?_
      refine sl_fos rfl rfl rfl (fun t ht => ?_)
      refine go_Pa ?_
      refine sl_fop (.inr (.inl rfl)) rfl rfl rfl (fun m hm' => ?_)
      refine go_Pa ?_
      refine sl_fop (.inl rfl) rfl rfl rfl (fun r hr' => ?_)
      refine go_Pa ?_
      exact se_ret2 (⟨d, r, i⟩ : Pg) (.inr ⟨hp, hs, by omega, hlo, hhi, d[i], hdi, .inr ⟨hst, d[i + 1], ap, hdj, hap, .inr ⟨⟨p0, by omega⟩, t, m, ht, hm', hr'⟩⟩⟩) rfl rfl rfl rfl (by exact sub_)
end Go.Proofs.Ytidphdlhghgglaa
/- A function's walk in parts: a piece of its code, what comes behind it left open. No program is in sight. -/
namespace Go.Proofs.Ytidphdlhghgglaa
open Go.RowKit
/-- A function's code. -/
def fb (f : Func) : Code := match f.body with
  | some c => c
  | none => .skip
/-- A piece of a code: true is the first of two, or the only one. -/
def cAt : List Bool → Code → Code
  | [], c => c
  | true :: r, .seq a _ => cAt r a
  | false :: r, .seq _ b => cAt r b
  | true :: r, .cond _ a _ => cAt r a
  | false :: r, .cond _ _ b => cAt r b
  | _ :: r, .block _ a => cAt r a
  | _ :: r, .loop a => cAt r a
  | _ :: r, .scope a => cAt r a
  | _, c => c
section
variable {P : Program} {Q : Exit → Act → World → Prop} {n : Nat} {l : Env} {L : List Fa} {x y : Code} {α : Type} {E : α → Env} {H : α → List Fa} {R : α → Prop} {id : Nat}
theorem se_mono {l l' : Env} {L L' : List Fa} {e : Exit} (h : SE Q e n l' L') (hl : Has l l') (hs : Sub L L') : SE Q e n l L := se_of fun w hw => WE.mk fun a ha => (h.to (hw.sub hs)).get (ha.sub hl.sub)
/-- How a piece ends: one of the states that are told. -/
abbrev Ends (n : Nat) (Q : Exit → Act → World → Prop) (e : Exit) (E : α → Env) (H : α → List Fa) (R : α → Prop) : Prop := ∀ (p : α) {l : Env} {L : List Fa}, R p → Has l (E p) → Sub L (H p) → SE Q e n l L
/-- A piece within its block, and what stands behind the block. -/
theorem sc_bpart (hp : ∀ Q', NoP Q' → Ends n Q' .normal E H R → SC P x Q' n l L) (hN : NoP (Exit.inBlock id (Exit.then (fun a w => y.wp P Q a w) Q))) (hy : ∀ p, R p → SC P y Q n (E p) (H p)) : SC P x (Exit.inBlock id (Exit.then (fun a w => y.wp P Q a w) Q)) n l L :=
  hp _ hN fun p _ _ hR hl hs => se_mono (se_block (se_seq (hy p hR))) hl hs
/-- A piece that leaves its block, and what stands behind the block. -/
theorem sc_xpart (hp : ∀ Q', NoP Q' → Ends n Q' (.exit id) E H R → SC P x Q' n l L) (hN : NoP (Exit.inBlock id (Exit.then (fun a w => y.wp P Q a w) Q))) (hy : ∀ p, R p → SC P y Q n (E p) (H p)) : SC P x (Exit.inBlock id (Exit.then (fun a w => y.wp P Q a w) Q)) n l L :=
  hp _ hN fun p _ _ hR hl hs => se_mono (se_block_hit (se_seq (hy p hR))) hl hs
/-- A piece, and what stands behind it. -/
theorem sc_spart (hp : ∀ Q', NoP Q' → Ends n Q' .normal E H R → SC P x Q' n l L) (hN : NoP (Exit.then (fun a w => y.wp P Q a w) Q)) (hy : ∀ p, R p → SC P y Q n (E p) (H p)) : SC P x (Exit.then (fun a w => y.wp P Q a w) Q) n l L :=
  hp _ hN fun p _ _ hR hl hs => se_mono (se_seq (hy p hR)) hl hs
end
theorem star2 {a b : Fa} {K : List Fa} : Ent_ (a :: b :: K) (star [a, b] :: K) := fun w hw => star_in (G := [a, b]) w hw
theorem star2_out {a b c : Fa} : Ent_ [star [a, b], c] [b, c] := fun w hw => (star_out (G := [a, b]) (K := [c]) w hw).sub (.skip .refl)
theorem star2_hd {a b c : Fa} : Ent_ [star [a, b], c] [a] := fun w hw => (star_out (G := [a, b]) (K := [c]) w hw).sub (.cons .here (.skip (.skip .refl)))
end Go.Proofs.Ytidphdlhghgglaa
/- StatsParts: its walk. -/
namespace Go.Proofs.Ytidphdlhghgglaa
open Go.RowKit
attribute [local irreducible] Go.Calls Go.Exit.then Go.Exit.inBlock Go.bodyPost Go.Code.wp Go.wpList
theorem fp_ext : ∀ {d e : List Fp}, d.map (fun a => key a.x) = e.map (fun a => key a.x) → d = e
  | [], [], _ => rfl
  | [], _ :: _, h => by simp at h
  | _ :: _, [], h => by simp at h
  | ⟨x, nx, lx⟩ :: d, ⟨y, ny, ly⟩ :: e, h => by
    simp only [List.map_cons, List.cons.injEq] at h
    obtain rfl := key_inj lx ly nx ny h.1
    rw [fp_ext h.2]
theorem slot_one {v : Int} {i j : Nat} (h1 : (i * uN : Nat) ≤ v) (h2 : v < ((i + 1) * uN : Nat)) (h3 : (j * uN : Nat) ≤ v) (h4 : v < ((j + 1) * uN : Nat)) : i = j := by
  have hu := uN_pos
  have key : ∀ a b : Nat, (a * uN : Nat) ≤ v → v < ((b + 1) * uN : Nat) → a ≤ b := fun a b ha hb => by
    refine Nat.le_of_not_lt fun h => ?_
    have : (b + 1) * uN ≤ a * uN := Nat.mul_le_mul_right _ h
    omega
  exact Nat.le_antisymm (key i j h1 h4) (key j i h3 h2)
theorem nanc : fnan 9221120237041090561 = true := nan_rung (by decide)
theorem nth_Pb {φ : Prop} (h : φ := by (first | rfl | assumption)) : φ := h
theorem mid_Pb {φ : Prop} (h : φ := by (first | exact Mid.all | exact Mid.all | exact Mid.head)) : φ := h
theorem sz_Pb {φ : Prop} (h : φ := by (first | rfl | (rfl; first | done | fail))) : φ := h
theorem one_Pb {φ : Prop} (h : φ := by (first | assumption | exact first | exact one_bytes _ | (simp only [List.mem_cons, List.not_mem_nil, or_false, forall_eq_or_imp, forall_eq]; decide) | exact one_bytes _)) : φ := h
theorem set_Pb {φ : Prop} (h : φ := by (first | (fail) | ((repeat (first | exact SetAt.here | apply SetAt.there)); first | done | fail))) : φ := h
theorem cl_Pb {φ : Prop} (h : φ := by first | rfl | exact .t | exact .f | exact .t (by omega) | exact .f (by omega) | exact .u | exact .i (by (first | exact .t (by omega) | exact .f (by omega) | exact .u | exact .i (by omega) | exact .v (by omega) | exact .b (by omega) | exact .w | rfl | omega)) | exact .v (by omega) | exact .b (by omega) | exact .q (by omega) | exact .w | exact .b (by exact at_) rfl (by exact nth_Pb) | exact .w (by exact at_) rfl rfl (by exact sz_Pb) | exact .s (by exact at_) (by exact mid_Pb) rfl rfl (by exact sz_Pb) | exact .z rfl rfl ⟨by kernel_rfl⟩ | exact .b rfl rfl ⟨by kernel_rfl⟩ | exact .a rfl rfl ⟨by kernel_rfl⟩ | exact .o rfl | exact .s | exact .n | exact .p rfl | exact .q rfl | exact .c rfl | exact .d rfl | exact .n rfl rfl (by omega) | exact .a rfl rfl (by omega) | exact .p rfl rfl (by omega) (by omega) | exact .y rfl rfl (by omega) (by omega) | exact .o (by exact at_) (by omega) rfl (by exact nth_Pb) | exact .m (by exact at_) (by omega) (by exact mid_Pb) rfl rfl (by exact sz_Pb) | exact .mlen (by exact at_) rfl | exact .t (by exact at_) rfl rfl (by first | exact True.intro | rfl) (by assumption) | exact .f (by exact at_) rfl rfl (by first | exact True.intro | rfl) (by assumption) rfl | exact .t1 (by exact at_) rfl rfl (by first | exact True.intro | rfl) (by assumption) | exact .f1 (by exact at_) rfl rfl (by first | exact True.intro | rfl) (by assumption) rfl | exact .r rfl rfl (by omega) (by omega) (by exact nth_Pb) rfl | exact .s rfl (by omega) (by assumption) | exact at_ | assumption | exact .r rfl rfl | exact .h rfl rfl rfl (by omega) | exact .l rfl rfl rfl (by omega) (by omega) | exact .g rfl rfl rfl rfl (by omega) (by omega) | exact .h rfl rfl (toN_ (by omega)) (by omega) | exact .l rfl rfl (toN_ (by omega)) (by omega) (by omega) | exact .g rfl rfl (toN_ (by omega)) (toN_ (by omega)) (by omega) (by omega) | exact .o (by decide) | exact .f (by decide) | exact .n (by omega) (by first | decide | (show _ ≤ ((64 : Nat) : Int); omega)) | (constructor; (repeat (first | exact .t (by omega) | exact .f (by omega) | exact .u | exact .i (by omega) | exact .v (by omega) | exact .b (by omega) | exact .w | rfl | omega)); first | done | fail) | omega | (show _ ≤ ((64 : Nat) : Int); omega)) : φ := h
theorem pv_Pb {φ : Prop} (h : φ := by constructor; (repeat exact cl_Pb); first | done | fail) : φ := h
theorem su_Pb {φ ψ : Prop} (k : ψ) (h : Hide ψ → φ := by (intro k; (first | refine sl_pu (PuI.sep (by exact pv_Pb)) rfl ?_ | refine sl_yes rfl rfl ?_ | refine sl_no rfl rfl rfl ?_ | refine sl_off rfl rfl rfl ?_ | (first | refine sl_pu (pu_fnn rfl rfl (by with_reducible assumption)) rfl ?_ | refine sl_pu (pu_fls rfl rfl (by with_reducible assumption)) rfl ?_ | refine sl_pu (pu_fgt rfl rfl (by with_reducible assumption)) rfl ?_ | refine sl_pu (pu_fe rfl rfl (by with_reducible assumption)) rfl ?_ | refine sl_pu (pu_fle rfl rfl (by with_reducible assumption)) rfl ?_ | refine sl_pu (pu_fmul rfl rfl (by with_reducible assumption)) rfl ?_ | refine sl_pu (pu_i2f rfl rfl rfl) rfl ?_)); exact k.out)) : φ := h ⟨k⟩
theorem rq_Pb {φ ψ : Prop} (k : ψ) (h : Hide ψ → φ := by (intro k; (first | refine wq_pu (PuI.sep (by exact pv_Pb)) rfl ?_ | refine wq_yes rfl rfl ?_ | refine wq_no rfl rfl rfl ?_ | refine wq_off rfl rfl rfl ?_ | (fail)); exact k.out)) : φ := h ⟨k⟩
theorem sto_Pb {φ ψ : Prop} (k : ψ) (h : Hide ψ → φ := by (intro k; (first | refine sl_store rfl (by exact pick_) rfl rfl (by kernel_rfl) (by exact set_Pb) ?_ | refine sl_store_whole rfl (by exact pick_) rfl (by exact sz_Pb) (by exact sz_Pb) (by exact one_Pb) ?_); exact k.out)) : φ := h ⟨k⟩
theorem go_Pb {φ ψ : Prop} (k : ψ) (h : Hide ψ → φ := by (intro k; (repeat (first | refine su_Pb ?_ | refine so_ ?_ | refine sto_Pb ?_)); exact k.out)) : φ := h ⟨k⟩
set_option maxRecDepth 100000 in
set_option maxHeartbeats 8000000 in
/-- One share. -/
theorem pShare {K : List Fa} {A A1 : Option Addr} {c c1 gp j x : Nat} {xs ps : List Nat} {e : List Fp} (hr : Vw K (fun w => Reads w 1 A xs.length (xs.map fl))) (hb : ∀ x ∈ xs, x < 18446744073709551616) (hn : xs.length ≤ 60) (hep : e.Perm (numsOf xs)) (hes : e.Pairwise (fun a b => key a.x ≤ key b.x)) (hx : nth (ps.map fl) (j * 1) = some (.float .f64 x)) (hxl : x < 18446744073709551616) (hj : j < 8) {Q' : Exit → Act → World → Prop} (hN : NoP Q')
    (hend : Ends 184 Q' .normal (fun _ : Unit => [(0, .slice A xs.length c), (7, .slice A1 e.length c1), (11, .int .i64 e.length), (70, .slice (some ⟨gp, 0, none⟩) 8 8), (71, .int .i64 8), (72, .int .i64 j)]) (fun _ => own 24 1 A1 e.length c1 (e.map Fp.v) :: own 24 1 (some ⟨gp, 0, none⟩) 8 8 (ps.map fl) :: K) (fun _ => True)) :
    SC Try.prog (cAt [false, false, false, false, false, false, true, false, true, true, false, false, true, true] (fb Try.f6)) (Exit.inBlock 5 Q') 184 [(0, .slice A xs.length c), (7, .slice A1 e.length c1), (11, .int .i64 e.length), (70, .slice (some ⟨gp, 0, none⟩) 8 8), (71, .int .i64 8), (72, .int .i64 j)] (own 24 1 A1 e.length c1 (e.map Fp.v) :: own 24 1 (some ⟨gp, 0, none⟩) 8 8 (ps.map fl) :: K) := by
  have z0 := zero_n
  have hu := uN_pos
  have hel := hep.length_eq
  have hnl := nums_len xs
  refine go_Pb ?_
  by_cases hc : pCode x = 0
  case neg =>
    refine sl_call rfl rfl (by kernel_rfl) rfl Sub.refl (part_err hc) ?_
    rintro _ -
    cases h1 : fnan x with
    | true =>
      rw [show pCode x = 28 by simp [pCode, h1]]
      refine go_Pb ?_
      exact hend () trivial (by exact has_) (by exact sub_)
    | false =>
    cases h2 : fLt x 0 with
    | true =>
      rw [show pCode x = 6 by simp [pCode, h1, h2]]
      refine go_Pb ?_
      exact hend () trivial (by exact has_) (by exact sub_)
    | false =>
    cases h3 : fLt 4607182418800017408 x with
    | true =>
      rw [show pCode x = 6 by simp [pCode, h1, h2, h3]]
      refine go_Pb ?_
      exact hend () trivial (by exact has_) (by exact sub_)
    | false => exact absurd (by simp [pCode, h1, h2, h3]) hc
  obtain ⟨h1, h2, h3, h4, h5⟩ := pCode_0 hc
  obtain ⟨a, hm, wa, a0, a1⟩ := mul_share (p := x) (N := (numsOf xs).length - 1) ⟨hxl, h1⟩ (by omega) h4 h5
  refine sl_call rfl rfl (by kernel_rfl) rfl Sub.refl (part_ok (a := a) (hr.mono (by exact sub_)) hb hn hc (fun _ => ⟨hm, wa, a0, a1⟩)) ?_
  rintro ⟨d, r, qi⟩ hq
  dsimp only at hq ⊢
  by_cases h0 : e.length = 0
  · have hr0 : r = 9221120237041090561 := by
      rcases hq with ⟨_, h⟩ | ⟨_, _, h, _⟩
      · exact h
      · omega
    subst hr0
    have hnn : fEq 9221120237041090561 9221120237041090561 = false := fEq_nan (.inl nanc)
    refine go_Pb ?_
    exact hend () trivial (by exact has_) (by exact sub_)
  rcases hq with ⟨h, _⟩ | ⟨hdp, hds, -, q1, q2, hR⟩
  · rw [h] at hel
    exact absurd hel h0
  have hde : d = e := fp_ext (sorted_keys (hdp.trans hep.symm) hds hes)
  subst hde
  have hrl := part_lt hR
  rw [← hel] at hm a1
  have hm2 := hm
  rw [← i2f_fiN, show ((d.length - 1 : Nat) : Int) = (d.length : Int) - 1 by omega] at hm2
  clear hr hb hep hes
  refine go_Pb ?_
  refine sc_bjoin (fun i : Nat => [(0, .slice A xs.length c), (7, .slice A1 d.length c1), (11, .int .i64 d.length), (14, .float .f64 r), (15, .int .i64 0), (16, .float .f64 a), (17, .int .i64 i), (70, .slice (some ⟨gp, 0, none⟩) 8 8), (71, .int .i64 8), (72, .int .i64 j)]) (fun _ => own 24 1 A1 d.length c1 (d.map Fp.v) :: own 24 1 (some ⟨gp, 0, none⟩) 8 8 (ps.map fl) :: K) (fun i => i < d.length ∧ (i * uN : Nat) ≤ fv a ∧ fv a < ((i + 1) * uN : Nat)) ?_ ?_
  · refine sc_for (fun i : Nat => [(0, .slice A xs.length c), (7, .slice A1 d.length c1), (11, .int .i64 d.length), (14, .float .f64 r), (15, .int .i64 0), (16, .float .f64 a), (17, .int .i64 i), (70, .slice (some ⟨gp, 0, none⟩) 8 8), (71, .int .i64 8), (72, .int .i64 j)]) (fun _ => own 24 1 A1 d.length c1 (d.map Fp.v) :: own 24 1 (some ⟨gp, 0, none⟩) 8 8 (ps.map fl) :: K) (fun i => i < d.length ∧ (i * uN : Nat) ≤ fv a) (fun i => d.length - i) 0 (by exact has_) (by exact sub_) ⟨by omega, by rw [Nat.zero_mul]; exact a0⟩ ?_
    rintro i ⟨hi, hia⟩
    by_cases hil : i + 1 < d.length
    · obtain ⟨f1, f2⟩ := fiN_all (i + 1) (by omega)
      have hge : fLe (floatOfInt .f64 ((i : Int) + 1)) a = decide (((i + 1) * uN : Nat) ≤ fv a) := by
        rw [show (i : Int) + 1 = ((i + 1 : Nat) : Int) from rfl, i2f_fiN, fLe_of (nan_pos f2) wa.nn, f1]
      by_cases hup : ((i + 1) * uN : Nat) ≤ fv a
      · have hge2 := hge.trans (decide_eq_true hup)
        clear hge
        refine go_Pb ?_
        exact se_round (i + 1) (by exact has_) (by exact sub_) ⟨hil, hup⟩ (by omega)
      · have hge2 := hge.trans (decide_eq_false hup)
        clear hge
        refine go_Pb ?_
        exact se_mid i (by exact has_) (by exact sub_) ⟨hi, hia, by omega⟩
    · have hup : fv a < ((i + 1) * uN : Nat) := by
        have e1 : d.length - 1 = i := by omega
        rw [e1] at a1
        have : (i + 1) * uN = i * uN + uN := Nat.succ_mul _ _
        omega
      refine go_Pb ?_
      exact se_mid i (by exact has_) (by exact sub_) ⟨hi, hia, hup⟩
  rintro i ⟨hi, i1, i2⟩
  obtain rfl : qi = i := slot_one q1 q2 i1 i2
  clear q1 q2 i1 i2 h4 h5
  have hni := fp_nth hi
  have hdi : d[qi]? = some d[qi] := List.getElem?_eq_getElem hi
  obtain ⟨g1, g2⟩ := fiN_all qi (by omega)
  have hne : (!fEq (floatOfInt .f64 (qi : Int)) a) = !decide (fv a = (qi * uN : Nat)) := by
    rw [i2f_fiN, fEq_of (nan_pos g2) wa.nn, g1]
    congr 1
    rw [decide_eq_decide]
    exact eq_comm
  refine sc_form (e := 24) (size := 1) (A := A1) (m := d.length) (by exact at_) (by omega) ?_
  rintro g rfl
  refine go_Pb ?_
  refine sl_pu (pu_fneq rfl rfl) rfl ?_
  rw [hne]
  by_cases hst : fv a = (qi * uN : Nat) ∨ qi + 1 = d.length
  · have hw : PartR d a qi d[qi].x := ⟨d[qi], hdi, .inl ⟨hst, rfl⟩⟩
    by_cases hv : fv a = (qi * uN : Nat)
    · rw [decide_eq_true hv]
      refine go_Pb ?_
      refine sl_call rfl rfl (by kernel_rfl) rfl Sub.refl (fn_same (just_c _ _ hrl (part_lt hw))) ?_
      rintro _ -
      rw [(part_one hR hw).just]
      refine go_Pb ?_
      exact hend () trivial (by exact has_) (by exact sub_)
    · have hl1 : qi + 1 = d.length := hst.resolve_left hv
      rw [decide_eq_false hv]
      refine go_Pb ?_
      refine sl_call rfl rfl (by kernel_rfl) rfl Sub.refl (fn_same (just_c _ _ hrl (part_lt hw))) ?_
      rintro _ -
      rw [(part_one hR hw).just]
      refine go_Pb ?_
      exact hend () trivial (by exact has_) (by exact sub_)
  have hv : fv a ≠ (qi * uN : Nat) := fun h => hst (.inl h)
  have hl1 : qi + 1 < d.length := by
    rcases Nat.lt_or_ge (qi + 1) d.length with h | h
    · exact h
    · exact absurd (.inr (by omega)) hst
  rw [decide_eq_false hv]
  have hdj : d[qi + 1]? = some d[qi + 1] := List.getElem?_eq_getElem hl1
  have hnj := fp_nth hl1
  have hnj2 : nth (d.map Fp.v) (((qi : Int) + 1).toNat * 1) = some (.float .f64 d[qi + 1].x) := hnj
  have hkk : key d[qi].x ≤ key d[qi + 1].x := List.pairwise_iff_getElem.1 hds qi (qi + 1) hi hl1 (by omega)
  refine go_Pb ?_
  refine sd_drawn (fun W => AllP W [own 24 1 (some ⟨g, 0, none⟩) d.length c1 (d.map Fp.v)]) (fun _ => true) (by kernel_rfl) 11 rfl ?_
  refine sd_yes2 0 rfl (by exact gd_) (by kernel_rfl) (by kernel_rfl) (by (repeat (first | assumption | exact nop_body | refine nop_then ?_ | refine nop_block ?_)); first | done | fail) (PuI.all (by exact pv_Pb)) rfl (fun w hw => all_ hw) ?_
  refine sd_yes2 1 rfl (by exact gd_) (by kernel_rfl) (by kernel_rfl) (by (repeat (first | assumption | exact nop_body | refine nop_then ?_ | refine nop_block ?_)); first | done | fail) (PuI.all (by exact pv_Pb)) rfl (fun w hw => all_ hw) ?_
  refine sd_yes2 2 rfl (by exact gd_) (by kernel_rfl) (by kernel_rfl) (by (repeat (first | assumption | exact nop_body | refine nop_then ?_ | refine nop_block ?_)); first | done | fail) (PuI.all (by exact pv_Pb)) rfl (fun w hw => all_ hw) ?_
  refine sd_yes2 3 rfl (by exact gd_) (by kernel_rfl) (by kernel_rfl) (by (repeat (first | assumption | exact nop_body | refine nop_then ?_ | refine nop_block ?_)); first | done | fail) (PuI.all (by exact pv_Pb)) rfl (fun w hw => all_ hw) ?_
  refine sd_yes2 4 rfl (by exact gd_) (by kernel_rfl) (by kernel_rfl) (by (repeat (first | assumption | exact nop_body | refine nop_then ?_ | refine nop_block ?_)); first | done | fail) (PuI.all (by exact pv_Pb)) rfl (fun w hw => all_ hw) ?_
  refine sd_yes2 5 rfl (by exact gd_) (by kernel_rfl) (by kernel_rfl) (by (repeat (first | assumption | exact nop_body | refine nop_then ?_ | refine nop_block ?_)); first | done | fail) (PuI.all (by exact pv_Pb)) rfl (fun w hw => all_ hw) ?_
  refine sd_yes2 6 rfl (by exact gd_) (by kernel_rfl) (by kernel_rfl) (by (repeat (first | assumption | exact nop_body | refine nop_then ?_ | refine nop_block ?_)); first | done | fail) (PuI.all (by exact pv_Pb)) rfl (fun w hw => all_ hw) ?_
  refine sd_yes2 7 rfl (by exact gd_) (by kernel_rfl) (by kernel_rfl) (by (repeat (first | assumption | exact nop_body | refine nop_then ?_ | refine nop_block ?_)); first | done | fail) (PuI.all (by exact pv_Pb)) rfl (fun w hw => all_ hw) ?_
  refine sd_yes2 8 rfl (by exact gd_) (by kernel_rfl) (by kernel_rfl) (by (repeat (first | assumption | exact nop_body | refine nop_then ?_ | refine nop_block ?_)); first | done | fail) (PuI.all (by exact pv_Pb)) rfl (fun w hw => all_ hw) ?_
  refine sd_one 9 (by kernel_rfl) (sa_sl 9 rfl ?_)
  refine sl_fos rfl rfl rfl (fun ap hap => ?_)
  refine sl_nil ?_
  refine se_sd (fun _ w hw => all_ hw) ?_
  refine sd_yes2 10 rfl (by exact gd_) (by kernel_rfl) (by kernel_rfl) (by (repeat (first | assumption | exact nop_body | refine nop_then ?_ | refine nop_block ?_)); first | done | fail) (PuI.all (by exact pv_Pb)) rfl (fun w hw => all_ hw) ?_
  refine sd_done (by kernel_rfl) ?_
  have hbad : ¬ ApOk ap → PartR d a qi d[qi].x := fun h => ⟨d[qi], hdi, .inr ⟨hst, d[qi + 1], ap, hdj, hap, .inl ⟨h, rfl⟩⟩⟩
  rcases ap_cls hkk hap with hna | rfl | ⟨p0, p1⟩
  · have e1 : fLt 0 ap = false := fLt_nan (.inr hna)
    have hw := hbad fun h => by have := ap_nn h; rw [hna] at this; cases this
    refine go_Pb ?_
    refine sl_call rfl rfl (by kernel_rfl) rfl Sub.refl (fn_same (just_c _ _ hrl (part_lt hw))) ?_
    rintro _ -
    rw [(part_one hR hw).just]
    refine go_Pb ?_
    exact hend () trivial (by exact has_) (by exact sub_)
  · have e1 : fLt 0 0 = false := by
      rw [fLt_of zero_n zero_n]
      exact decide_eq_false (Int.lt_irrefl _)
    have hw := hbad fun h => absurd h.1 (Nat.lt_irrefl _)
    refine go_Pb ?_
    refine sl_call rfl rfl (by kernel_rfl) rfl Sub.refl (fn_same (just_c _ _ hrl (part_lt hw))) ?_
    rintro _ -
    rw [(part_one hR hw).just]
    refine go_Pb ?_
    exact hend () trivial (by exact has_) (by exact sub_)
  have e1 : fLt 0 ap = true := by
    rw [fLt_of zero_n (nan_pos p1), fv_0, fv_pos p1, decide_eq_true_eq]
    have := fvR_lt p1 p0
    have e0 : fvR 0 = 0 := by decide
    omega
  have e2 : fLe ap 9218868437227405311 = !decide (maxF < ap) := by
    rw [← rung_lt p1, fLe_of (nan_pos p1) (nan_pos (by decide)), fLt_of (nan_pos (by decide)) (nan_pos p1)]
    show decide (fv ap ≤ fv maxF) = !decide (fv maxF < fv ap)
    rw [Bool.eq_iff_iff]
    simp
  by_cases hmx : maxF < ap
  · rw [decide_eq_true hmx] at e2
    have hw := hbad fun h => absurd h.2 (by omega)
    refine go_Pb ?_
    refine sl_call rfl rfl (by kernel_rfl) rfl Sub.refl (fn_same (just_c _ _ hrl (part_lt hw))) ?_
    rintro _ -
    rw [(part_one hR hw).just]
    refine go_Pb ?_
    exact hend () trivial (by exact has_) (by exact sub_)
  · rw [decide_eq_false hmx] at e2
    refine go_Pb ?_
    refine sl_fos rfl rfl rfl (fun t ht => ?_)
    refine go_Pb ?_
    refine sl_fop (.inr (.inl rfl)) rfl rfl rfl (fun m hm' => ?_)
    refine go_Pb ?_
    refine sl_fop (.inl rfl) rfl rfl rfl (fun z hz => ?_)
    rw [i2f_fiN] at ht
    have hw : PartR d a qi z := ⟨d[qi], hdi, .inr ⟨hst, d[qi + 1], ap, hdj, hap, .inr ⟨⟨p0, by omega⟩, t, m, ht, hm', hz⟩⟩⟩
    refine go_Pb ?_
    refine sl_call rfl rfl (by kernel_rfl) rfl Sub.refl (fn_same (just_c _ _ hrl (part_lt hw))) ?_
    rintro _ -
    rw [(part_one hR hw).just]
    refine go_Pb ?_
    exact hend () trivial (by exact has_) (by exact sub_)
end Go.Proofs.Ytidphdlhghgglaa
/- Floats that came in; StatsSummaries at what came in. -/
namespace Go.Proofs.Ytidphdlhghgglaa
open Go.RowKit Go.ChangeShapes Go.WideShapes Go.Deep
section
variable {H : Type} {enc : TypeId × Value → H} {w : World} {base : Nat} {spare : Nat → Bool} {held : Bool} {fuel : Nat} {cs : List Value} {x : DataW H × List MemPlace}
theorem open_f64 (h : DataW.trod enc Try.prog w base spare held fuel 24 cs = some x) : ∃ b, cs = [Value.float .f64 b] ∧ b < 18446744073709551616 := by
  have ht := Try.underlying24
  cases fuel with
  | zero => simp [DataW.trod] at h
  | succ n =>
    unfold DataW.trod at h
    rw [ht] at h
    split at h <;> simp_all
    rename_i k b hk
    obtain ⟨h1, _⟩ := h
    have hw : (Lit.float .f64 b).wf = true := by simp_all
    simpa [Lit.wf] using hw
def FlsV (w : World) (v : Value) : Prop := ∃ (A : Option Addr) (c : Nat) (l : List Nat), v = .slice A l.length c ∧ Reads w 1 A l.length (l.map fl) ∧ (∀ x ∈ l, x < 18446744073709551616) ∧ l.length ≤ c ∧ c ≤ maxLen
theorem flat_fl (l : List Nat) : (l.flatMap fun n => [fl n]) = l.map fl := by
  induction l with
  | nil => rfl
  | cons a r ih =>
    rw [List.flatMap_cons, ih]
    rfl
theorem open_fls {v : Value} (h : DataW.trod enc Try.prog w base spare held fuel 22 v.cells.toList = some x) (hv : ∃ A n c, v = .slice A n c) : FlsV w v := by
  obtain ⟨A0, n0, c0, rfl⟩ := hv
  obtain ⟨A, n, c, xs, hcs, hl, hr, hk, hc, hm⟩ := open_rows (X := Nat) 1 (fun n => [fl n]) (fun n => n < 18446744073709551616) Try.underlying22 (by kernel_rfl) (fun _ _ _ h => open_f64 h) h
  rw [flat_fl] at hr
  subst hl
  exact ⟨A, c, xs, by simpa [Value.cells] using hcs, hr, fun x hx => (hk x hx).1, hc, hm⟩
end
theorem Summ_v {v : Value} {w : World} (h : FlsV w v) : Calls Try.prog 3 #[v] w fun e w' => e = .returned (.bool true) ∧ Fr Nil w w' := by
  obtain ⟨A, c, l, rfl, hr, hb, hc, hm⟩ := h
  unfold maxLen at hm
  exact Fn.top (lawSumm_ok (Vw.of_old .here hr) hb (by omega))
end Go.Proofs.Ytidphdlhghgglaa
