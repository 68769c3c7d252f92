/- Several texts of one claim, one behind the other (Sa, Fj, Cl, Reg4, Cm, Az). -/
import Derived.Test.YtidphdlhghgglaaB08
import Derived.Laws.FloatArith
import Derived.Test.YtidphdlhghgglaaB06
import Derived.Laws.BitsAllLaws
/- The fixed fact of chapter 30. -/
namespace Go.Proofs.Ytidphdlhghgglaa
open Go.RowKit
attribute [local irreducible] Go.Calls Go.Exit.then Go.Exit.inBlock Go.bodyPost Go.Code.wp Go.wpList
theorem pu_andNot {P : Program} {C : World → Prop} {n : Nat} {l : Env} {x y : Operand} {t t' ty : TypeId} {k : IntKind} {p q : Int} (hx : ev l x = some (.int k p)) (hy : ev l y = some (.int k q)) : Pu P C n l (.binOp .andNot t x y t') ty (.int k (bits .andNot k p q)) := by
  unfold Pu
  intro a _ _ _ _ W hs _
  simp only [execOp, hs.ev hx, hs.ev hy]
  simp [go_sem]
theorem nth_Sa {φ : Prop} (h : φ := by (first | rfl | assumption)) : φ := h
theorem mid_Sa {φ : Prop} (h : φ := by (first | exact Mid.all | exact Mid.all | exact Mid.head)) : φ := h
theorem sz_Sa {φ : Prop} (h : φ := by (first | rfl | (rfl; first | done | fail))) : φ := h
theorem one_Sa {φ : Prop} (h : φ := by (first | assumption | exact first | exact summ_one | exact one_bytes _ | (simp only [List.mem_cons, List.not_mem_nil, or_false, forall_eq_or_imp, forall_eq]; decide) | exact one_bytes _)) : φ := h
theorem set_Sa {φ : Prop} (h : φ := by (first | (fail) | ((repeat (first | exact SetAt.here | apply SetAt.there)); first | done | fail))) : φ := h
theorem cl_Sa {φ : Prop} (h : φ := by first | rfl | exact .t | exact .f | exact .t (by omega) | exact .f (by omega) | exact .u | exact .i (by (first | exact .t (by omega) | exact .f (by omega) | exact .u | exact .i (by omega) | exact .v (by omega) | exact .b (by omega) | exact .w | rfl | omega)) | exact .v (by omega) | exact .b (by omega) | exact .q (by omega) | exact .w | exact .b (by exact at_) rfl (by exact nth_Sa) | exact .w (by exact at_) rfl rfl (by exact sz_Sa) | exact .s (by exact at_) (by exact mid_Sa) rfl rfl (by exact sz_Sa) | exact .z rfl rfl ⟨by kernel_rfl⟩ | exact .b rfl rfl ⟨by kernel_rfl⟩ | exact .a rfl rfl ⟨by kernel_rfl⟩ | exact .o rfl | exact .s | exact .n | exact .p rfl | exact .q rfl | exact .c rfl | exact .d rfl | exact .n rfl rfl (by omega) | exact .a rfl rfl (by omega) | exact .p rfl rfl (by omega) (by omega) | exact .y rfl rfl (by omega) (by omega) | exact .o (by exact at_) (by omega) rfl (by exact nth_Sa) | exact .m (by exact at_) (by omega) (by exact mid_Sa) rfl rfl (by exact sz_Sa) | exact .mlen (by exact at_) rfl | exact .t (by exact at_) rfl rfl (by first | exact True.intro | rfl) (by assumption) | exact .f (by exact at_) rfl rfl (by first | exact True.intro | rfl) (by assumption) rfl | exact .t1 (by exact at_) rfl rfl (by first | exact True.intro | rfl) (by assumption) | exact .f1 (by exact at_) rfl rfl (by first | exact True.intro | rfl) (by assumption) rfl | exact .r rfl rfl (by omega) (by omega) (by exact nth_Sa) rfl | exact .s rfl (by omega) (by assumption) | exact at_ | assumption | exact .r rfl rfl | exact .h rfl rfl rfl (by omega) | exact .l rfl rfl rfl (by omega) (by omega) | exact .g rfl rfl rfl rfl (by omega) (by omega) | exact .h rfl rfl (toN_ (by omega)) (by omega) | exact .l rfl rfl (toN_ (by omega)) (by omega) (by omega) | exact .g rfl rfl (toN_ (by omega)) (toN_ (by omega)) (by omega) (by omega) | exact .o (by decide) | exact .f (by decide) | exact .n (by omega) (by first | decide | (show _ ≤ ((64 : Nat) : Int); omega)) | (constructor; (repeat (first | exact .t (by omega) | exact .f (by omega) | exact .u | exact .i (by omega) | exact .v (by omega) | exact .b (by omega) | exact .w | rfl | omega)); first | done | fail) | omega | (show _ ≤ ((64 : Nat) : Int); omega)) : φ := h
theorem pv_Sa {φ : Prop} (h : φ := by constructor; (repeat exact cl_Sa); first | done | fail) : φ := h
theorem su_Sa {φ ψ : Prop} (k : ψ) (h : Hide ψ → φ := by (intro k; (first | refine sl_pu (PuI.sep (by exact pv_Sa)) rfl ?_ | refine sl_yes rfl rfl ?_ | refine sl_no rfl rfl rfl ?_ | refine sl_off rfl rfl rfl ?_ | (fail)); exact k.out)) : φ := h ⟨k⟩
theorem rq_Sa {φ ψ : Prop} (k : ψ) (h : Hide ψ → φ := by (intro k; (first | refine wq_pu (PuI.sep (by exact pv_Sa)) rfl ?_ | refine wq_yes rfl rfl ?_ | refine wq_no rfl rfl rfl ?_ | refine wq_off rfl rfl rfl ?_ | (fail)); exact k.out)) : φ := h ⟨k⟩
theorem sto_Sa {φ ψ : Prop} (k : ψ) (h : Hide ψ → φ := by (intro k; (first | refine sl_store rfl (by exact pick_) rfl rfl (by kernel_rfl) (by exact set_Sa) ?_ | refine sl_store_whole rfl (by exact pick_) rfl (by exact sz_Sa) (by exact sz_Sa) (by exact one_Sa) ?_); exact k.out)) : φ := h ⟨k⟩
theorem go_Sa {φ ψ : Prop} (k : ψ) (h : Hide ψ → φ := by (intro k; (repeat (first | refine su_Sa ?_ | refine so_ ?_ | refine sto_Sa ?_)); exact k.out)) : φ := h ⟨k⟩
set_option maxRecDepth 100000 in
theorem copysign_ok {K : List Fa} : Fn Try.prog 23 #[.float .f64 0, .float .f64 13830554455654793216] K (Ret (fun _ : Unit => True) (fun _ => .float .f64 9223372036854775808) (fun _ => K)) := by
  refine fn_enter Try.func23 rfl _ Try.ntmps23 (by simp) [(0, .float .f64 0), (1, .float .f64 13830554455654793216)] (args_of (by simp)) ?_
  refine go_Sa ?_
  refine sl_pu (pu_ext (cap := []) rfl rfl (fun W _ => run_bits 0 W)) rfl ?_
  refine sl_pu (pu_andNot rfl rfl) rfl ?_
  refine go_Sa ?_
  refine sl_pu (pu_ext (cap := []) rfl rfl (fun W _ => run_bits 13830554455654793216 W)) rfl ?_
  refine go_Sa ?_
  refine sl_pu (pu_ext (cap := []) rfl rfl (fun W _ => run_frombits 9223372036854775808 W)) rfl ?_
  refine go_Sa ?_
  exact se_ret1 () trivial rfl rfl (by exact sub_)
theorem signbit_ok {K : List Fa} {x : Nat} (hx : x < 18446744073709551616) : Fn Try.prog 24 #[.float .f64 x] K (Ret (fun _ : Unit => True) (fun _ => .bool (fneg x)) (fun _ => K)) := fn_same (signbit_c x hx)
/-- Steps on floats. -/
theorem pu_feql {P : Program} {C : World → Prop} {n : Nat} {l : Env} {x y : Operand} {t t' ty : TypeId} {a b : Nat} (hx : ev l x = some (.float .f64 a)) (hy : ev l y = some (.float .f64 b)) : Pu P C n l (.binOp .eql t x y t') ty (.bool (fEq a b)) := by
  unfold Pu
  intro q _ _ _ _ W hs _
  simp only [execOp, hs.ev hx, hs.ev hy]
  simp [go_sem, fEq]
theorem pu_flss {P : Program} {C : World → Prop} {n : Nat} {l : Env} {x y : Operand} {t t' ty : TypeId} {a b : Nat} (hx : ev l x = some (.float .f64 a)) (hy : ev l y = some (.float .f64 b)) : Pu P C n l (.binOp .lss t x y t') ty (.bool (fLt a b)) := by
  unfold Pu
  intro q _ _ _ _ W hs _
  simp only [execOp, hs.ev hx, hs.ev hy]
  simp [go_sem, fLt]
theorem nums_awake : numsOf [9221120237041090561, 4611686018427387904, 9223372036854775808, 0] = [⟨4611686018427387904, by rw [fnan_eq]; rfl, by decide⟩, ⟨9223372036854775808, by rw [fnan_eq]; rfl, by decide⟩, ⟨0, by rw [fnan_eq]; rfl, by decide⟩] := by
  have h0 : fnan 9221120237041090561 = true := by rw [fnan_eq]; rfl
  have h1 : fnan 4611686018427387904 = false := by rw [fnan_eq]; rfl
  have h2 : fnan 9223372036854775808 = false := by rw [fnan_eq]; rfl
  have h3 : fnan 0 = false := by rw [fnan_eq]; rfl
  rw [nums_cons, dif_neg (by rw [h0]; simp), nums_cons, dif_pos ⟨h1, by decide⟩, nums_cons, dif_pos ⟨h2, by decide⟩, nums_cons, dif_pos ⟨h3, by decide⟩]
  rfl
def k2 : Int := 2 * (fv 4611686018427387904) + 1
theorem fv_0 : fv 0 = 0 := by
  show Ieee.signed false 0 _ = 0
  simp [Ieee.signed]
theorem fv_m0 : fv 9223372036854775808 = 0 := by
  show Ieee.signed true 0 _ = 0
  simp [Ieee.signed]
theorem fv_2 : 0 < fv 4611686018427387904 := by
  have h : Ieee.double.read 4611686018427387904 = .number false 4503599627370496 (-51) := by rfl
  unfold fv
  rw [h]
  show 0 < Ieee.signed false 4503599627370496 ((-51 : Int) + 1074).toNat
  unfold Ieee.signed
  rw [if_neg (by decide), Nat.shiftLeft_eq]
  have := Nat.two_pow_pos ((-51 : Int) + 1074).toNat
  have h2 : 0 < 4503599627370496 * 2 ^ ((-51 : Int) + 1074).toNat := Nat.mul_pos (by decide) this
  exact Int.natCast_pos.2 h2
theorem awake_sorted {d : List Fp} (hp : d.Perm (numsOf [9221120237041090561, 4611686018427387904, 9223372036854775808, 0])) (hs : d.Pairwise (fun a b => key a.x ≤ key b.x)) : ∃ a b c, d = [a, b, c] ∧ a.x = 9223372036854775808 ∧ b.x = 0 ∧ c.x = 4611686018427387904 := by
  rw [nums_awake] at hp
  have hlen := hp.length_eq
  obtain ⟨a, b, c, rfl⟩ : ∃ a b c, d = [a, b, c] := by
    match d, hlen with
    | [a, b, c], _ => exact ⟨a, b, c, rfl⟩
  have hka : key 4611686018427387904 = k2 := by
    unfold key k2
    rw [show fneg 4611686018427387904 = false by rfl]
    rfl
  have hkb : key 9223372036854775808 = 0 := by
    unfold key
    rw [fv_m0, show fneg 9223372036854775808 = true by rfl]
    rfl
  have hkc : key 0 = 1 := by
    unfold key
    rw [fv_0, show fneg 0 = false by rfl]
    rfl
  have hk2 : 1 < k2 := by
    have := fv_2
    unfold k2
    omega
  have hm := hp.map Fp.x
  have hk : [a.x, b.x, c.x].Pairwise (fun x y => key x ≤ key y) := by simpa using hs
  simp only [List.map_cons, List.map_nil] at hm
  have e := List.Perm.eq_of_pairwise (le := fun x y => key x ≤ key y) (l₁ := [a.x, b.x, c.x]) (l₂ := [9223372036854775808, 0, 4611686018427387904]) (fun x y hx hy h1 h2 => ?_) hk (by simp [hka, hkb, hkc]; omega) (hm.trans ?_)
  · simp only [List.cons.injEq, and_true] at e
    exact ⟨a, b, c, rfl, e⟩
  · have hx' := hm.mem_iff.1 hx
    simp only [List.mem_cons, List.not_mem_nil, or_false] at hx' hy
    rcases hx' with rfl | rfl | rfl <;> rcases hy with rfl | rfl | rfl <;> simp only [hka, hkb, hkc] at h1 h2 <;> first | rfl | omega
  · exact (List.Perm.cons _ (List.Perm.refl _)).trans (List.perm_iff_count.2 fun z => by simp only [List.count_cons, List.count_nil]; omega)
theorem summA {a b c : Fp} (ha : a.x = 9223372036854775808) (hb : b.x = 0) (hc : c.x = 4611686018427387904) : Value.agg (summC [a, b, c]).toArray = .agg #[.int .i64 3, .float .f64 9223372036854775808, .float .f64 4611686018427387904, .float .f64 0] := by
  unfold summC
  simp [fl, ha, hb, hc]
theorem fEq_self {x : Nat} (h : fnan x = false) : fEq x x = true := by
  rw [fEq_of h h]
  simp
theorem fl_oneA {a b c d : Nat} : ∀ u ∈ [Value.float .f64 a, .float .f64 b, .float .f64 c, .float .f64 d], u.oneCell' = true := by
  intro u hu
  simp only [List.mem_cons, List.not_mem_nil, or_false] at hu
  rcases hu with rfl | rfl | rfl | rfl <;> rfl
set_option maxRecDepth 100000 in
set_option maxHeartbeats 2000000 in
theorem awake30 {K : List Fa} : Fn Try.prog 9 #[] K (Ret (fun _ : Unit => True) (fun _ => .bool true) (fun _ => K)) := by
  refine fn_enter Try.func9 rfl _ Try.ntmps9 (by simp) [] (args_of (by simp)) ?_
  refine go_Sa ?_
  refine sl_call rfl rfl (by kernel_rfl) rfl Sub.refl (fn_same nan_c) ?_
  rintro _ -
  refine go_Sa ?_
  refine sl_call rfl rfl (by kernel_rfl) rfl Sub.refl copysign_ok ?_
  rintro _ -
  refine go_Sa ?_
  refine sl_build (size := 1) (e := 24) (cells := [9221120237041090561, 4611686018427387904, 9223372036854775808, 0].map fl) rfl (fun W => by kernel_rfl) rfl (by decide) rfl ?_
  intro gb
  refine go_Sa ?_
  refine sl_call rfl rfl (by kernel_rfl) rfl Sub.refl (summ_ok (xs := [9221120237041090561, 4611686018427387904, 9223372036854775808, 0]) (Vw.of_own (e := 24) (A := some ⟨gb, 0, none⟩) (c := 4) (by exact at_)) (by decide) (by decide)) ?_
  rintro d ⟨hp, hs⟩
  obtain ⟨a, b, c, rfl, ha, hb, hc⟩ := awake_sorted hp hs
  rw [summA ha hb hc]
  refine go_Sa ?_
  refine sl_alloc rfl rfl rfl ?_; intro g1
  refine go_Sa ?_
  refine sl_pu (pu_feql rfl rfl) rfl ?_
  rw [show fEq 9223372036854775808 0 = true by rw [fEq_of (by rw [fnan_eq]; rfl) (by rw [fnan_eq]; rfl), fv_m0, fv_0]; rfl]
  refine go_Sa ?_
  refine sl_call rfl rfl (by kernel_rfl) rfl Sub.refl (signbit_ok (by decide)) ?_
  rintro _ -
  rw [show fneg 9223372036854775808 = true from rfl]
  refine go_Sa ?_
  refine sl_pu (pu_feql rfl rfl) rfl ?_
  rw [show fEq 4611686018427387904 4611686018427387904 = true from fEq_self (by rw [fnan_eq]; rfl)]
  refine go_Sa ?_
  refine sl_pu (pu_feql rfl rfl) rfl ?_
  rw [show fEq 0 0 = true from fEq_self (by rw [fnan_eq]; rfl)]
  refine go_Sa ?_
  refine sl_call rfl rfl (by kernel_rfl) rfl Sub.refl (signbit_ok (by decide)) ?_
  rintro _ -
  rw [show fneg 0 = false from rfl]
  refine go_Sa ?_
  exact se_ret1 () trivial rfl rfl (by exact sub_)
end Go.Proofs.Ytidphdlhghgglaa
/- less and Just, as the statements have them. -/
namespace Go.Proofs.Ytidphdlhghgglaa
open Go.RowKit
def lessF (a b : Nat) : Bool := fLt a b || (fEq a b && (fneg a && !fneg b))
def justF (a b : Nat) : Bool := (fnan a && fnan b) || (fEq a b && (fneg a == fneg b))
theorem none_c (x : Nat) (W : World) : Calls Try.prog 28 #[.float .f64 x] W fun e w' => e = .returned (.bool (fnan x)) ∧ w' = W := by
  go_enter Try.func28, Try.ntmps28
  go_wp2
  go_ret
  exact ⟨rfl, rfl⟩
theorem less_c (x y : Nat) (hx : x < 18446744073709551616) (hy : y < 18446744073709551616) (W : World) : Calls Try.prog 11 #[.float .f64 x, .float .f64 y] W fun e w' => e = .returned (.bool (lessF x y)) ∧ w' = W := by
  go_enter Try.func11, Try.ntmps11
  go_wp2_with (go_at_call 24; refine (signbit_c _ (by assumption) _).mono ?_; rintro e w' ⟨rfl, rfl⟩)
  all_goals go_ret
  all_goals refine ⟨?_, rfl⟩
  all_goals simp_all [lessF, fLt, fEq]
theorem just_c (x y : Nat) (hx : x < 18446744073709551616) (hy : y < 18446744073709551616) (W : World) : Calls Try.prog 12 #[.float .f64 x, .float .f64 y] W fun e w' => e = .returned (.bool (justF x y)) ∧ w' = W := by
  go_enter Try.func12, Try.ntmps12
  go_wp2_with (first | (go_at_call 24; refine (signbit_c _ (by assumption) _).mono ?_; rintro e w' ⟨rfl, rfl⟩) | (go_at_call 28; refine (none_c _ _).mono ?_; rintro e w' ⟨rfl, rfl⟩))
  all_goals go_ret
  all_goals refine ⟨?_, rfl⟩
  all_goals simp_all [justF, fEq]
theorem less_of {x y : Nat} (hx : fnan x = false) (hy : fnan y = false) : lessF x y = decide (key x < key y) := by
  unfold lessF key
  rw [fEq_of hx hy, fLt_of hx hy]
  rw [Bool.eq_iff_iff]
  cases fneg x <;> cases fneg y <;> simp <;> omega
theorem just_key {x y : Nat} (hx : fnan x = false) (hy : fnan y = false) (h : key x = key y) : justF x y = true := by
  unfold justF
  unfold key at h
  rw [fEq_of hx hy]
  have : fv x = fv y ∧ fneg x = fneg y := by
    cases hp : fneg x <;> cases hq : fneg y <;> rw [hp, hq] at h <;> simp at h ⊢ <;> omega
  rw [this.1, this.2]
  simp
end Go.Proofs.Ytidphdlhghgglaa
/- Differences of floats. Plain. -/
namespace Go.Proofs.Ytidphdlhghgglaa
open Go.RowKit
def absF (x : Nat) : Nat := x % 9223372036854775808
def fLe (a b : Nat) : Bool := fLt a b || fEq a b
def subF (x y : Nat) : Option Nat := FloatKind.f64.format.sub x y
theorem sw_eq : Ieee.double.signWeight = 9223372036854775808 := by decide
theorem ir_eq : Ieee.double.infRung = 9218868437227405312 := by decide
theorem bi_eq : Ieee.double.binade = 4503599627370496 := by decide
theorem abs_word (n n' : Bool) {r : Nat} (h : r ≤ Ieee.double.infRung) : absF (Ieee.double.word n r) = absF (Ieee.double.word n' r) := by
  rw [ir_eq] at h
  unfold Ieee.Format.word absF
  rw [sw_eq]
  cases n <;> cases n' <;> simp only [Bool.false_eq_true, if_false, if_true] <;> omega
theorem cut_even (n n' : Bool) (a b : Nat) : Ieee.Toward.even.cut n a b = Ieee.Toward.even.cut n' a b := rfl
theorem abs_nearest (n n' : Bool) (mag : Nat) (place : Int) : absF (Ieee.double.nearest n mag place) = absF (Ieee.double.nearest n' mag place) := by
  unfold Ieee.Format.nearest
  by_cases h : mag = 0
  · rw [if_pos h, if_pos h]
    exact abs_word n n' (Nat.zero_le _)
  · rw [if_neg h, if_neg h]
    dsimp only
    rw [cut_even n n']
    exact abs_word n n' (Nat.min_le_right _ _)
theorem signed_not (s : Bool) (m k : Nat) : Ieee.signed (!s) m k = -Ieee.signed s m k := by
  unfold Ieee.signed
  cases s <;> simp
theorem sub_abs (x y : Nat) : (subF x y).map absF = (subF y x).map absF := by
  show (((Ieee.double.read x).sum (Ieee.double.read y).opposite).map Ieee.double.write).map absF = (((Ieee.double.read y).sum (Ieee.double.read x).opposite).map Ieee.double.write).map absF
  generalize Ieee.double.read x = a
  generalize Ieee.double.read y = b
  have hi : ∀ n n', absF (Ieee.double.word n Ieee.double.infRung) = absF (Ieee.double.word n' Ieee.double.infRung) := fun n n' => abs_word n n' (Nat.le_refl _)
  cases a with
  | nan s f => cases b <;> rfl
  | infinity s =>
    cases b with
    | nan t g => rfl
    | infinity t =>
      simp only [Ieee.Datum.opposite, Ieee.Datum.sum]
      cases s <;> cases t <;> simp [Ieee.Format.write, hi true false]
    | number t n j => exact congrArg some (hi s (!s))
  | number s m i =>
    cases b with
    | nan t g => rfl
    | infinity t => exact congrArg some (hi (!t) t)
    | number t n j =>
      simp only [Ieee.Datum.opposite, Ieee.Datum.sum, Option.map_some, Ieee.Format.write]
      rw [Int.min_comm j i, signed_not, signed_not]
      have : (Ieee.signed t n (j - min i j).toNat + -Ieee.signed s m (i - min i j).toNat).natAbs = (Ieee.signed s m (i - min i j).toNat + -Ieee.signed t n (j - min i j).toNat).natAbs := by omega
      rw [this]
      exact congrArg some (abs_nearest _ _ _ _)
theorem sub_nan {x y : Nat} (h : fnan x = true ∨ fnan y = true) : subF x y = none := by
  rw [fnan_eq, fnan_eq] at h
  show (((Ieee.double.read x).sum (Ieee.double.read y).opposite).map Ieee.double.write) = none
  revert h
  generalize Ieee.double.read x = a
  generalize Ieee.double.read y = b
  intro h
  cases a <;> cases b <;> first | rfl | simp [Ieee.Datum.isNaN] at h
theorem sub_lt {x y r : Nat} (h : subF x y = some r) : r < 18446744073709551616 := by
  have := Ieee.Format.sub_lt (f := Ieee.double) h
  exact Nat.lt_of_lt_of_le this (by decide)
/-- Its size. -/
def absD : Ieee.Datum → Ieee.Datum
  | .number _ m i => .number false m i
  | .infinity _ => .infinity false
  | .nan _ f => .nan false f
theorem read_abs (x : Nat) : Ieee.double.read (absF x) = absD (Ieee.double.read x) := by
  unfold Ieee.Format.read absF
  simp only [sw_eq]
  rw [Nat.mod_mod, show x % 9223372036854775808 / 9223372036854775808 = 0 by omega]
  split
  · rfl
  · split
    · rfl
    · split <;> rfl
theorem nan_abs (x : Nat) : fnan (absF x) = fnan x := by
  rw [fnan_eq, fnan_eq, read_abs]
  cases Ieee.double.read x <;> rfl
theorem fneg_read {x : Nat} (hx : x < 18446744073709551616) : (Ieee.double.read x).neg = fneg x := by
  have h : (x / 9223372036854775808 % 2 == 1) = fneg x := by
    unfold fneg
    rw [Bool.eq_iff_iff]
    simp
    omega
  unfold Ieee.Format.read
  simp only [sw_eq]
  rw [h]
  split
  · rfl
  · split
    · rfl
    · split <;> rfl
theorem fv_abs {x : Nat} (hx : x < 18446744073709551616) (hn : fnan x = false) : fv (absF x) = if fneg x then -fv x else fv x := by
  unfold fv
  rw [read_abs, ← fneg_read hx]
  rw [fnan_eq] at hn
  cases h : Ieee.double.read x with
  | nan s f => rw [h] at hn; cases hn
  | infinity s => cases s <;> simp [absD, fvD, Ieee.Datum.neg]
  | number s m i => cases s <;> simp [absD, fvD, Ieee.Datum.neg, Ieee.signed]
theorem fv_sign {x : Nat} (hx : x < 18446744073709551616) (hn : fnan x = false) : if fneg x then fv x ≤ 0 else 0 ≤ fv x := by
  unfold fv
  rw [← fneg_read hx]
  rw [fnan_eq] at hn
  cases h : Ieee.double.read x with
  | nan s f => rw [h] at hn; cases hn
  | infinity s => cases s <;> simp [fvD, Ieee.Datum.neg]
  | number s m i =>
    have hm : ∀ k, (0 : Int) ≤ ((m <<< k : Nat) : Int) := fun k => Int.natCast_nonneg _
    cases s
    · show (0 : Int) ≤ ((m <<< (i + 1074).toNat : Nat) : Int)
      exact hm _
    · show -((m <<< (i + 1074).toNat : Nat) : Int) ≤ 0
      have := hm (i + 1074).toNat
      omega
theorem xor_top {r : Nat} (h : r < 9223372036854775808) : (9223372036854775808 + r) ^^^ 9223372036854775808 = r := by
  rw [show (9223372036854775808 : Nat) = 2 ^ 63 by decide] at h ⊢
  apply Nat.eq_of_testBit_eq
  intro i
  rw [Nat.testBit_xor, Nat.testBit_two_pow]
  rcases Nat.lt_trichotomy i 63 with hi | hi | hi
  · rw [Nat.testBit_two_pow_add_gt hi, decide_eq_false (by omega)]
    simp
  · subst hi
    rw [Nat.testBit_two_pow_add_eq, Nat.testBit_lt_two_pow h]
    rfl
  · rw [Nat.testBit_lt_two_pow (Nat.lt_of_lt_of_le (by omega : 2 ^ 63 + r < 2 ^ 64) (Nat.pow_le_pow_right (by decide) hi)), Nat.testBit_lt_two_pow (Nat.lt_of_lt_of_le h (Nat.pow_le_pow_right (by decide) (by omega))), decide_eq_false (by omega)]
    rfl
theorem neg_top {x : Nat} (hx : x < 18446744073709551616) (hn : fneg x = true) : x ^^^ 9223372036854775808 = absF x := by
  unfold fneg at hn
  have h := of_decide_eq_true hn
  have h2 := xor_top (r := x - 9223372036854775808) (by omega)
  rw [show 9223372036854775808 + (x - 9223372036854775808) = x by omega] at h2
  rw [h2]
  unfold absF
  omega
theorem lt0_neg {x : Nat} (hx : x < 18446744073709551616) (h : fLt x 0 = true) : fneg x = true := by
  have hn : fnan x = false := by
    cases h2 : fnan x with
    | true => rw [fLt_nan (.inl h2)] at h; cases h
    | false => rfl
  have h0 : fnan 0 = false := by rw [fnan_eq]; rfl
  have hz : fv 0 = 0 := by
    show Ieee.signed false 0 _ = 0
    simp [Ieee.signed]
  rw [fLt_of hn h0, hz, decide_eq_true_eq] at h
  have h3 := fv_sign hx hn
  cases h4 : fneg x with
  | true => rfl
  | false => rw [h4] at h3; simp at h3; omega
/-- The statement's way to a size is as good as the sign's. -/
theorem le_abs {x k : Nat} (hx : x < 18446744073709551616) (h : fLt x 0 = false) : fLe x k = fLe (absF x) k := by
  cases hn : fnan x with
  | true =>
    unfold fLe
    rw [fLt_nan (.inl hn), fEq_nan (.inl hn), fLt_nan (.inl (by rw [nan_abs]; exact hn)), fEq_nan (.inl (by rw [nan_abs]; exact hn))]
  | false =>
    have h0 : fnan 0 = false := by rw [fnan_eq]; rfl
    have hz : fv 0 = 0 := by
      show Ieee.signed false 0 _ = 0
      simp [Ieee.signed]
    rw [fLt_of hn h0, hz, decide_eq_false_iff_not] at h
    have hv : fv (absF x) = fv x := by
      rw [fv_abs hx hn]
      have h3 := fv_sign hx hn
      cases h4 : fneg x <;> rw [h4] at h3 <;> simp at h3 ⊢ <;> omega
    unfold fLe
    cases hk : fnan k with
    | true => rw [fLt_nan (.inr hk), fEq_nan (.inr hk), fLt_nan (.inr hk), fEq_nan (.inr hk)]
    | false => rw [fLt_of hn hk, fEq_of hn hk, fLt_of (by rw [nan_abs]; exact hn) hk, fEq_of (by rw [nan_abs]; exact hn) hk, hv]
theorem le_nan {x k : Nat} (h : fnan x = true) : fLe x k = false := by
  unfold fLe
  rw [fLt_nan (.inl h), fEq_nan (.inl h)]
  rfl
/-- Near. -/
def nearF (a b k : Nat) : Bool := sameF a b || (match subF a b with
  | some r => fLe (absF r) k
  | none => false)
theorem fEq_comm (a b : Nat) : fEq a b = fEq b a := by
  by_cases h : fnan a = true ∨ fnan b = true
  · rw [fEq_nan h, fEq_nan h.symm]
  · have ha : fnan a = false := by cases hh : fnan a <;> simp_all
    have hb : fnan b = false := by cases hh : fnan b <;> simp_all
    rw [fEq_of ha hb, fEq_of hb ha, Bool.eq_iff_iff]
    simp
    omega
theorem near_comm (a b k : Nat) : nearF a b k = nearF b a k := by
  unfold nearF sameF
  rw [fEq_comm b a, Bool.and_comm (fnan b)]
  have h := sub_abs a b
  cases h1 : subF a b <;> cases h2 : subF b a <;> rw [h1, h2] at h <;> simp_all
end Go.Proofs.Ytidphdlhghgglaa
/- In a region that draws: an operation whose guard itself was passed by. -/
namespace Go.Proofs.Ytidphdlhghgglaa
open Go.RowKit
section
variable {P : Program} {ops : Array Oper} {Q : Exit → Act → World → Prop} {S : World → Prop} {need : Nat → Bool} {fuel : Nat} {listed : Array Bool} {n : Nat} {l : Env} {L : List Fa} {d : Tmp} {op : Op} {ty : TypeId} {pos : String} {after : Array Edge}
theorem sd_off3 (i : Nat) {j t : Nat} {b : Bool} (hi : ops[i]? = some ⟨some d, op, ty, pos, after, some (j, b)⟩) (hj : (ops[j]?).bind (·.dst) = some t) (ht : lk l t = some undef) (hB : freeOk ops listed i = true) (hN : stayOk2 ops listed need i = true)
    (hQ : NoP Q) (hd : Nat.blt d n = true) (hS : ∀ w, Sep w L → S w) (h : SD P ops Q S need fuel (listed.setIfInBounds i true) n ((d, undef) :: l) L) : SD P ops Q S need (fuel + 1) listed n l L := sd_of fun w hw => by
  have h1 := h.to hw
  unfold WD at h1 ⊢
  intro a hs
  have hwant : Region.wanted ⟨some d, op, ty, pos, after, some (j, b)⟩ (yielded ops a.tmps) = false := by
    have h2 : ((none : Option Bool) == some b) = false := rfl
    simp only [Region.wanted, hs.unyield hj ht, h2]
  obtain ⟨b1, b2, b3⟩ := freeOk_spec hB
  exact wpAnyD_first2 (R := fun j => ∃ f, waitsFor ops listed i f j = true) hi (Region.noSelect_spec b1) (fun c a w => hQ c a _ _ w) (fun j oj ⟨f, hf⟩ hj => waitsFor_edge hf hj) fuel listed a w (fun j oj hj hji hun hnR => stayOk2_spec hN j oj hj hji hun hnR) (fun j ⟨f, hf⟩ => waitsFor_un hf) (Region.free_spec hi b2) (by simpa using b3) (.inr ⟨hwant, rfl⟩) (hS w hw) (h1 _ (hs.put hd undef))
end
end Go.Proofs.Ytidphdlhghgglaa
/- Steps on floats; Abs, Clamp, Near over facts. -/
namespace Go.Proofs.Ytidphdlhghgglaa
open Go.RowKit
attribute [local irreducible] Go.Calls Go.Exit.then Go.Exit.inBlock Go.bodyPost Go.Code.wp Go.wpList
theorem nan_rung {x : Nat} (h : 9218868437227405312 < x % 9223372036854775808) : fnan x = true := by
  rw [fnan_eq]
  unfold Ieee.Format.read
  simp only [sw_eq, bi_eq, ir_eq]
  rw [if_neg (by omega), if_neg (by omega), if_neg (by omega)]
  rfl
section
variable {P : Program} {C : World → Prop} {ops : Array Oper} {Q : Exit → Act → World → Prop} {n : Nat} {l : Env} {L : List Fa} {rest : List Oper} {d : Tmp} {t t' ty : TypeId} {pos : String} {after : Array Edge} {x y : Operand} {a b : Nat} {c : Bool}
theorem sl_fsub (hx : ev l x = some (.float .f64 a)) (hy : ev l y = some (.float .f64 b)) (hd : Nat.blt d n = true) (h1 : ∀ r, subF a b = some r → SL P ops Q rest n ((d, .float .f64 r) :: l) L) (h0 : subF a b = none → ∀ r, fnan r = true → r < 18446744073709551616 → SL P ops Q rest n ((d, .float .f64 r) :: l) L) :
    SL P ops Q (⟨some d, .binOp .sub t x y t', ty, pos, after, none⟩ :: rest) n l L := sl_of fun w hw => by
  cases h : subF a b with
  | some r =>
    refine wl_run (v := .float .f64 r) (w' := w) ?_ hd ((h1 r h).to hw)
    unfold Ru
    intro q _ _ _ _ hs
    have h' : FloatKind.f64.format.sub a b = some r := h
    simp only [execOp, hs.ev hx, hs.ev hy]
    simp [go_sem, binOp, Op.floatArith, h']
  | none =>
    have h' : FloatKind.f64.format.sub a b = none := h
    have hb : ∀ u : Nat, (u % 2 * 2 ^ 63 + 0x7ff0000000000000 + 1 + u / 2 % (2 ^ 52 - 1)) % 9223372036854775808 = 0x7ff0000000000000 + 1 + u / 2 % (2 ^ 52 - 1) ∧ u % 2 * 2 ^ 63 + 0x7ff0000000000000 + 1 + u / 2 % (2 ^ 52 - 1) < 18446744073709551616 := fun u => by
      have h1 := Nat.mod_lt (u / 2) (by decide : 0 < 2 ^ 52 - 1)
      constructor <;> omega
    have hq := hb (w.tape w.drawn (.nanBits .f64 a b))
    refine wl_run (v := .float .f64 ((Question.nanBits .f64 a b).cut (w.tape w.drawn (.nanBits .f64 a b)))) (w' := w.drew) ?_ hd ((h0 h _ (nan_rung ?_) ?_).to (hw.nil ((Fr.refl Nil w).drew)))
    · unfold Ru
      intro q _ _ _ _ hs
      simp only [execOp, hs.ev hx, hs.ev hy]
      simp [go_sem, binOp, Op.floatArith, h', Question.forced]
    · show _ < (_ + 0x7ff0000000000000 + 1 + _) % 9223372036854775808
      rw [hq.1]
      omega
    · exact hq.2
theorem pu_fnn (hx : ev l x = some (.float .f64 a)) (hy : ev l y = some (.float .f64 a)) (h : fnan a = c) : Pu P C n l (.binOp .neq t x y t') ty (.bool c) := by
  subst h
  unfold Pu
  intro q _ _ _ _ W hs _
  simp only [execOp, hs.ev hx, hs.ev hy]
  simp [go_sem, fnan, fEq]
  rfl
theorem pu_fls (hx : ev l x = some (.float .f64 a)) (hy : ev l y = some (.float .f64 b)) (h : fLt a b = c) : Pu P C n l (.binOp .lss t x y t') ty (.bool c) := by
  subst h
  exact pu_flss hx hy
theorem pu_fgt (hx : ev l x = some (.float .f64 a)) (hy : ev l y = some (.float .f64 b)) (h : fLt b a = c) : Pu P C n l (.binOp .gtr t x y t') ty (.bool c) := by
  subst h
  unfold Pu
  intro q _ _ _ _ W hs _
  simp only [execOp, hs.ev hx, hs.ev hy]
  simp [go_sem, ← fGt_eq]
theorem pu_fe (hx : ev l x = some (.float .f64 a)) (hy : ev l y = some (.float .f64 b)) (h : fEq a b = c) : Pu P C n l (.binOp .eql t x y t') ty (.bool c) := by
  subst h
  exact pu_feql hx hy
theorem pu_fle (hx : ev l x = some (.float .f64 a)) (hy : ev l y = some (.float .f64 b)) (h : fLe a b = c) : Pu P C n l (.binOp .leq t x y t') ty (.bool c) := by
  subst h
  unfold Pu
  intro q _ _ _ _ W hs _
  simp only [execOp, hs.ev hx, hs.ev hy]
  simp [go_sem, fLe, fLt, fEq]
theorem pu_fneg (hx : ev l x = some (.float .f64 a)) (ha : a < 18446744073709551616) (h : fneg a = true) : Pu P C n l (.unOp .neg t x) ty (.float .f64 (absF a)) := by
  rw [← neg_top ha h]
  unfold Pu
  intro q _ _ _ _ W hs _
  simp only [execOp, hs.ev hx]
  simp [go_sem, Op.unary, Op.negFloat]
  rfl
end
theorem nth_Cm {φ : Prop} (h : φ := by (first | rfl | rfl)) : φ := h
theorem mid_Cm {φ : Prop} (h : φ := by (first | exact Mid.all | exact Mid.all | exact Mid.head)) : φ := h
theorem sz_Cm {φ : Prop} (h : φ := by (first | rfl | (rfl; first | done | fail))) : φ := h
theorem one_Cm {φ : Prop} (h : φ := by (first | assumption | exact one_bytes _ | (simp only [List.mem_cons, List.not_mem_nil, or_false, forall_eq_or_imp, forall_eq]; decide) | exact one_bytes _)) : φ := h
theorem set_Cm {φ : Prop} (h : φ := by (first | (fail) | ((repeat (first | exact SetAt.here | apply SetAt.there)); first | done | fail))) : φ := h
theorem cl_Cm {φ : Prop} (h : φ := by first | rfl | exact .t | exact .f | exact .t (by omega) | exact .f (by omega) | exact .u | exact .i (by (first | exact .t (by omega) | exact .f (by omega) | exact .u | exact .i (by omega) | exact .v (by omega) | exact .b (by omega) | exact .w | rfl | omega)) | exact .v (by omega) | exact .b (by omega) | exact .q (by omega) | exact .w | exact .b (by exact at_) rfl (by exact nth_Cm) | exact .w (by exact at_) rfl rfl (by exact sz_Cm) | exact .s (by exact at_) (by exact mid_Cm) rfl rfl (by exact sz_Cm) | exact .z rfl rfl ⟨by kernel_rfl⟩ | exact .b rfl rfl ⟨by kernel_rfl⟩ | exact .a rfl rfl ⟨by kernel_rfl⟩ | exact .o rfl | exact .s | exact .n | exact .p rfl | exact .q rfl | exact .c rfl | exact .d rfl | exact .n rfl rfl (by omega) | exact .a rfl rfl (by omega) | exact .p rfl rfl (by omega) (by omega) | exact .y rfl rfl (by omega) (by omega) | exact .o (by exact at_) (by omega) rfl (by exact nth_Cm) | exact .m (by exact at_) (by omega) (by exact mid_Cm) rfl rfl (by exact sz_Cm) | exact .mlen (by exact at_) rfl | exact .t (by exact at_) rfl rfl (by first | exact True.intro | rfl) (by assumption) | exact .f (by exact at_) rfl rfl (by first | exact True.intro | rfl) (by assumption) rfl | exact .t1 (by exact at_) rfl rfl (by first | exact True.intro | rfl) (by assumption) | exact .f1 (by exact at_) rfl rfl (by first | exact True.intro | rfl) (by assumption) rfl | exact .r rfl rfl (by omega) (by omega) (by exact nth_Cm) rfl | exact .s rfl (by omega) (by assumption) | exact at_ | assumption | exact .r rfl rfl | exact .h rfl rfl rfl (by omega) | exact .l rfl rfl rfl (by omega) (by omega) | exact .g rfl rfl rfl rfl (by omega) (by omega) | exact .h rfl rfl (toN_ (by omega)) (by omega) | exact .l rfl rfl (toN_ (by omega)) (by omega) (by omega) | exact .g rfl rfl (toN_ (by omega)) (toN_ (by omega)) (by omega) (by omega) | exact .o (by decide) | exact .f (by decide) | exact .n (by omega) (by first | decide | (show _ ≤ ((64 : Nat) : Int); omega)) | (constructor; (repeat (first | exact .t (by omega) | exact .f (by omega) | exact .u | exact .i (by omega) | exact .v (by omega) | exact .b (by omega) | exact .w | rfl | omega)); first | done | fail) | omega | (show _ ≤ ((64 : Nat) : Int); omega)) : φ := h
theorem pv_Cm {φ : Prop} (h : φ := by constructor; (repeat exact cl_Cm); first | done | fail) : φ := h
theorem su_Cm {φ ψ : Prop} (k : ψ) (h : Hide ψ → φ := by (intro k; (first | refine sl_pu (PuI.sep (by exact pv_Cm)) rfl ?_ | refine sl_yes rfl rfl ?_ | refine sl_no rfl rfl rfl ?_ | refine sl_off rfl rfl rfl ?_ | (first | refine sl_pu (pu_fnn rfl rfl (by assumption)) rfl ?_ | refine sl_pu (pu_fls rfl rfl (by assumption)) rfl ?_ | refine sl_pu (pu_fgt rfl rfl (by assumption)) rfl ?_ | refine sl_pu (pu_fe rfl rfl (by assumption)) rfl ?_ | refine sl_pu (pu_fle rfl rfl (by assumption)) rfl ?_ | refine sl_pu (pu_fneg rfl (by assumption) (by assumption)) rfl ?_)); exact k.out)) : φ := h ⟨k⟩
theorem rq_Cm {φ ψ : Prop} (k : ψ) (h : Hide ψ → φ := by (intro k; (first | refine wq_pu (PuI.sep (by exact pv_Cm)) rfl ?_ | refine wq_yes rfl rfl ?_ | refine wq_no rfl rfl rfl ?_ | refine wq_off rfl rfl rfl ?_ | (fail)); exact k.out)) : φ := h ⟨k⟩
theorem sto_Cm {φ ψ : Prop} (k : ψ) (h : Hide ψ → φ := by (intro k; (first | refine sl_store rfl (by exact pick_) rfl rfl (by kernel_rfl) (by exact set_Cm) ?_ | refine sl_store_whole rfl (by exact pick_) rfl (by exact sz_Cm) (by exact sz_Cm) (by exact one_Cm) ?_); exact k.out)) : φ := h ⟨k⟩
theorem go_Cm {φ ψ : Prop} (k : ψ) (h : Hide ψ → φ := by (intro k; (repeat (first | refine su_Cm ?_ | refine so_ ?_ | refine sto_Cm ?_)); exact k.out)) : φ := h ⟨k⟩
theorem andNot_top {x : Nat} (hx : x < 18446744073709551616) : (bits .andNot .u64 (x : Int) 9223372036854775808).toNat = absF x := by
  rw [u64_andNot (x : Int) 9223372036854775808 (by omega) (by omega) (by decide) (by decide), Int.toNat_natCast, Int.toNat_natCast]
  show x &&& (18446744073709551615 - 9223372036854775808) = absF x
  rw [show 18446744073709551615 - 9223372036854775808 = 2 ^ 63 - 1 by decide, Nat.and_two_pow_sub_one_eq_mod]
  rfl
set_option maxRecDepth 100000 in
theorem abs_ok {K : List Fa} {x : Nat} (hx : x < 18446744073709551616) : Fn Try.prog 31 #[.float .f64 x] K (Ret (fun _ : Unit => True) (fun _ => .float .f64 (absF x)) (fun _ => K)) := by
  refine fn_enter Try.func31 rfl _ Try.ntmps31 (by simp) [(0, .float .f64 x)] (args_of (by simp)) ?_
  refine go_Cm ?_
  refine sl_pu (pu_ext (cap := []) rfl rfl (fun W _ => run_bits x W)) rfl ?_
  refine sl_pu (pu_andNot rfl rfl) rfl ?_
  refine sl_pu (pu_ext (cap := []) rfl rfl (fun W _ => run_frombits _ W)) rfl ?_
  rw [andNot_top hx]
  refine go_Cm ?_
  exact se_ret1 () trivial rfl rfl (by exact sub_)
def clV (x lo hi : Nat) : Nat × Int := if fnan lo || fnan hi then (0, 28) else if fLt hi lo then (0, 6) else if fnan x || fLt x lo then (lo, 0) else if fLt hi x then (hi, 0) else (x, 0)
theorem clV_lt {x lo hi : Nat} (hx : x < 18446744073709551616) (h1 : lo < 18446744073709551616) (h2 : hi < 18446744073709551616) : (clV x lo hi).1 < 18446744073709551616 := by
  unfold clV
  repeat' split
  all_goals first | assumption | decide
theorem just_self (x : Nat) : justF x x = true := by
  unfold justF
  cases h : fnan x with
  | true => rfl
  | false =>
    have : fEq x x = true := fEq_self h
    rw [this]
    simp
set_option maxRecDepth 100000 in
set_option maxHeartbeats 2000000 in
theorem clamp_ok {K : List Fa} {x lo hi : Nat} : Fn Try.prog 15 #[.float .f64 x, .float .f64 lo, .float .f64 hi] K (Ret (fun _ : Unit => True) (fun _ => .tuple #[.float .f64 (clV x lo hi).1, .int .i64 (clV x lo hi).2]) (fun _ => K)) := by
  refine fn_enter Try.func15 rfl _ Try.ntmps15 (by simp) [(0, .float .f64 x), (1, .float .f64 lo), (2, .float .f64 hi)] (args_of (by simp)) ?_
  refine go_Cm ?_
  refine sl_call rfl rfl (by kernel_rfl) rfl Sub.refl (fn_same (isNaN_c lo)) ?_
  rintro _ -
  cases h1 : fnan lo with
  | true =>
    rw [show clV x lo hi = (0, 28) by simp [clV, h1]]
    refine go_Cm ?_
    exact se_ret2 () trivial rfl rfl rfl rfl (by exact sub_)
  | false =>
  refine go_Cm ?_
  refine sl_call rfl rfl (by kernel_rfl) rfl Sub.refl (fn_same (isNaN_c hi)) ?_
  rintro _ -
  cases h2 : fnan hi with
  | true =>
    rw [show clV x lo hi = (0, 28) by simp [clV, h2]]
    refine go_Cm ?_
    exact se_ret2 () trivial rfl rfl rfl rfl (by exact sub_)
  | false =>
  cases h3 : fLt hi lo with
  | true =>
    rw [show clV x lo hi = (0, 6) by simp [clV, h1, h2, h3]]
    refine go_Cm ?_
    exact se_ret2 () trivial rfl rfl rfl rfl (by exact sub_)
  | false =>
  refine go_Cm ?_
  refine sl_call rfl rfl (by kernel_rfl) rfl Sub.refl (fn_same (isNaN_c x)) ?_
  rintro _ -
  cases h4 : fnan x with
  | true =>
    rw [show clV x lo hi = (lo, 0) by simp [clV, h1, h2, h3, h4]]
    refine go_Cm ?_
    exact se_ret2 () trivial rfl rfl rfl rfl (by exact sub_)
  | false =>
  cases h5 : fLt x lo with
  | true =>
    rw [show clV x lo hi = (lo, 0) by simp [clV, h1, h2, h3, h4, h5]]
    refine go_Cm ?_
    exact se_ret2 () trivial rfl rfl rfl rfl (by exact sub_)
  | false =>
  cases h6 : fLt hi x with
  | true =>
    rw [show clV x lo hi = (hi, 0) by simp [clV, h1, h2, h3, h4, h5, h6]]
    refine go_Cm ?_
    exact se_ret2 () trivial rfl rfl rfl rfl (by exact sub_)
  | false =>
    rw [show clV x lo hi = (x, 0) by simp [clV, h1, h2, h3, h4, h5, h6]]
    refine go_Cm ?_
    exact se_ret2 () trivial rfl rfl rfl rfl (by exact sub_)
set_option maxRecDepth 100000 in
set_option maxHeartbeats 2000000 in
theorem near_ok {K : List Fa} {a b k : Nat} : Fn Try.prog 16 #[.float .f64 a, .float .f64 b, .float .f64 k] K (Ret (fun _ : Unit => True) (fun _ => .bool (nearF a b k)) (fun _ => K)) := by
  refine fn_enter Try.func16 rfl _ Try.ntmps16 (by simp) [(0, .float .f64 a), (1, .float .f64 b), (2, .float .f64 k)] (args_of (by simp)) ?_
  refine go_Cm ?_
  refine sl_call rfl rfl (by kernel_rfl) rfl Sub.refl (fn_same (same_c a b)) ?_
  rintro _ -
  cases h1 : sameF a b with
  | true =>
    rw [show nearF a b k = true by unfold nearF; rw [h1]; rfl]
    refine go_Cm ?_
    exact se_ret1 () trivial rfl rfl (by exact sub_)
  | false =>
  refine go_Cm ?_
  refine sl_fsub rfl rfl rfl (fun r hr => ?_) (fun hr r hn hrl => ?_)
  · refine go_Cm ?_
    refine sl_call rfl rfl (by kernel_rfl) rfl Sub.refl (abs_ok (sub_lt hr)) ?_
    rintro _ -
    obtain ⟨c, hc⟩ : ∃ c, fLe (absF r) k = c := ⟨_, rfl⟩
    rw [show nearF a b k = c by unfold nearF; rw [h1, hr]; exact hc]
    refine go_Cm ?_
    exact se_ret1 () trivial rfl rfl (by exact sub_)
  · refine go_Cm ?_
    refine sl_call rfl rfl (by kernel_rfl) rfl Sub.refl (abs_ok hrl) ?_
    rintro _ -
    have hc : fLe (absF r) k = false := le_nan (by rw [nan_abs]; exact hn)
    rw [show nearF a b k = false by unfold nearF; rw [h1, hr]; rfl]
    refine go_Cm ?_
    exact se_ret1 () trivial rfl rfl (by exact sub_)
end Go.Proofs.Ytidphdlhghgglaa
/- append of zeros onto a row of one's own. Results of floats' operations, as far as they are told. No program is in sight. -/
namespace Go.Proofs.Ytidphdlhghgglaa
open Go.RowKit
section
variable {P : Program} {ops : Array Oper} {Q : Exit → Act → World → Prop} {n : Nat} {l : Env} {L L' : List Fa} {rest : List Oper} {d : Tmp} {ty t t' e : TypeId} {pos : String} {after : Array Edge} {x y : Operand} {k m c cb size bytes g : Nat} {A : Option Addr} {xs ys : List Value} {z : Value}
theorem zeros_one {z : Value} {m : Nat} (h : ∀ v ∈ z.cells.toList, v.oneCell' = true) : ∀ v ∈ zeros z m, v.oneCell' = true := by
  intro v hv
  unfold zeros Builtin.zeroCells at hv
  rw [Array.mem_toList_iff, Array.mem_map] at hv
  obtain ⟨i, hi, rfl⟩ := hv
  rw [Array.mem_range] at hi
  have hs : 0 < z.cells.size := by
    rcases Nat.eq_zero_or_pos z.cells.size with h0 | h0
    · rw [h0, Nat.mul_zero] at hi
      omega
    · exact h0
  have hlt := Nat.mod_lt i hs
  rw [getElem!_pos z.cells (i % z.cells.size) hlt]
  exact h _ (by simp)
theorem sl_app_zeros_own {kn : IntKind} (hx : ev l x = some (.slice A k c)) (hp : Pick (own e size A k c xs) L L') (hy : ev l y = some (.int .i64 (m : Int))) (ht : P.underlying t = some (.slice e)) (ht' : P.underlying t' = some (.int kn)) (hi : (P.info? e).map (fun i => (i.zero, i.size, i.bytes)) = some (some z, size, bytes)) (hzs : z.cells.size = size) (hsz : 0 < size) (hz1 : ∀ v ∈ z.cells.toList, v.oneCell' = true)
    (hm : 0 < m) (hd : Nat.blt d n = true) (h63 : k + m ≤ maxLen) (hby : (k + m) * bytes ≤ 140737488355328)
    (h : ∀ A' c', SL P ops Q rest n ((d, .slice A' (k + m) c') :: l) (own e size A' (k + m) c' (xs ++ zeros z m) :: L')) : SL P ops Q (⟨some d, .call { callee := .builtin .append, args := #[x, y], argTypes := #[t, t'] }, ty, pos, after, none⟩ :: rest) n l L := by
  by_cases hg : c < k + m
  · refine sl_app_zeros hx hy (Vw.of_own (c := c) (e := e) (At.of_mem ((hp.mem _).2 (.inl rfl)))) ht ht' hi hzs hsz hm hg hd h63 hby (fun g c' => ?_)
    exact sl_ent (Ent_.tail (fun w hw => (hw.pick hp).tl) (fun k ⟨y, hy, hk⟩ => ⟨y, (hp.mem y).2 (.inr hy), hk⟩)) (h _ c')
  · refine sl_of fun w hw => ?_
    obtain ⟨i, hi0, hz0, hz1, hz2⟩ := info_parts hi
    subst hz1 hz2
    have h2 := hw.pick hp
    have hO : w.ownsRow 0 e i.size (.slice A k c) k xs := by
      have := h2.hd
      unfold own at this
      exact this
    obtain ⟨g, rfl⟩ : ∃ g, A = some ⟨g, 0, none⟩ := by
      rcases hO.2 with h1 | ⟨g, cur, cc, he, _⟩
      · have : c = 0 := by
          injection h1.1
        omega
      · injection he with he
        exact ⟨g, he⟩
    obtain ⟨cur, hB, hkc, hcm, hcs, htk, hxl⟩ := own_open hO
    have hcl : cur.toList.length = c * i.size := by simpa using hcs
    have hroom : k + m ≤ c := by omega
    have hmul : (k + m) * i.size ≤ c * i.size := Nat.mul_le_mul_right _ hroom
    rw [Nat.add_mul] at hmul
    have hzl : (zeros z m).length = m * i.size := by rw [zeros_len, hzs]
    have h48 : ¬ (281474976710656 < (m : Int) * (i.bytes : Int)) := by
      have h3 : m * i.bytes ≤ (k + m) * i.bytes := Nat.mul_le_mul_right _ (by omega)
      rw [← Int.natCast_mul]
      omega
    have hw64 : IntKind.i64.wrap (m : Int) = m := by
      rw [IntKind.wrap_i64]
      unfold maxLen at h63
      omega
    have hneg : ¬ ((m : Int) < 0) := by omega
    have hns : ¬ (m * i.size = 0) := Nat.mul_ne_zero (by omega) (by omega)
    have hst := run_storeCells_cells (P := P) g (k * i.size) (zeros z m) 0 w (fun j hj => by rw [hB.cell, Array.getElem?_eq_getElem (by omega)]; rfl) (fun j hj => hB.frozen _) (zeros_one hz1)
    simp only [Nat.add_zero] at hst
    have hrun : (Builtin.append_ #[t, t'] ty #[.slice (some ⟨g, 0, none⟩) k c, .int .i64 m]).run P w = .ok (.slice (some ⟨g, 0, none⟩) (k + m) c) (w.setCells g (k * i.size) (zeros z m)) := by
      have hst' : (storeCells ⟨g, k * i.size, none⟩ (Builtin.zeroCells z.cells m).toList 0).run P w = .ok () (w.setCells g (k * i.size) (zeros z m)) := hst
      simp [Builtin.append_, run_underlying ht, run_underlying ht', sizeOf, typeInfo, zeroValue, hi0, hz0, asInt, asIntOf, hw64, hneg, hns, h48, hroom, Addr.add_lit, hst']
    have hB2 := setCells_mid (zeros z m) (k * i.size) w cur.toList (by simpa using hB) (by omega)
    refine wl_run (v := .slice (some ⟨g, 0, none⟩) (k + m) c) (w' := w.setCells g (k * i.size) (zeros z m)) ?_ hd ((h _ c).to (h2.step (setCells_fr _ _ _) (fun j _ e => by rw [own_F]; exact congrArg some e.symm) (own_mk (own_close (cur := (cur.toList.take (k * i.size) ++ zeros z m ++ cur.toList.drop (k * i.size + (zeros z m).length)).toArray) (by simpa using hB2) hroom hcm (by simp; omega) ?_ (by rw [List.length_append, Nat.add_mul]; omega))) (fun j hj => .inl (by rw [own_F] at hj ⊢; exact hj))))
    · unfold Ru
      intro a _ _ _ _ hs
      simp only [execOp, resolve, List.map_toArray, List.map_cons, List.map_nil, hs.ev hx, hs.ev hy]
      simp only [invoke, builtin, Sem.run_bind, Sem.run_pure, Result.andThen_ok, hrun]
    · rw [List.toList_toArray, htk, List.take_left']
      rw [List.length_append, Nat.add_mul]
      omega
end
def FOp (o : BinOp) (a b r : Nat) : Prop := r < 18446744073709551616 ∧ (floatBits o .f64 a b = some r ∨ (floatBits o .f64 a b = none ∧ fnan r = true))
section
variable {P : Program} {C : World → Prop} {ops : Array Oper} {Q : Exit → Act → World → Prop} {n : Nat} {l : Env} {L : List Fa} {rest : List Oper} {d : Tmp} {t t' ty : TypeId} {pos : String} {after : Array Edge} {x y : Operand} {a b : Nat} {o : BinOp}
theorem sl_fop (ho : o = .add ∨ o = .mul ∨ o = .quo) (hx : ev l x = some (.float .f64 a)) (hy : ev l y = some (.float .f64 b)) (hd : Nat.blt d n = true) (h1 : ∀ r, FOp o a b r → SL P ops Q rest n ((d, .float .f64 r) :: l) L) :
    SL P ops Q (⟨some d, .binOp o t x y t', ty, pos, after, none⟩ :: rest) n l L := sl_of fun w hw => by
  cases h : floatBits o .f64 a b with
  | some r =>
    have hlt : r < 18446744073709551616 := by
      have h2 := floatBits_wf h
      have h3 : (Lit.float .f64 r).wf = true ↔ r < 2 ^ 64 := by simp [Lit.wf]
      exact h3.1 h2
    refine wl_run (v := .float .f64 r) (w' := w) ?_ hd ((h1 r ⟨hlt, .inl h⟩).to hw)
    unfold Ru
    intro q _ _ _ _ hs
    simp only [execOp, hs.ev hx, hs.ev hy]
    have h4 := run_float_arith (P := P) w o t .f64 a b r h
    rcases ho with rfl | rfl | rfl
    all_goals
      unfold floatBits at h
      simp only at h
      simp [go_sem, binOp, Op.floatArith, h]
  | none =>
    have hb : ∀ u : Nat, (u % 2 * 2 ^ 63 + 0x7ff0000000000000 + 1 + u / 2 % (2 ^ 52 - 1)) % 9223372036854775808 = 0x7ff0000000000000 + 1 + u / 2 % (2 ^ 52 - 1) ∧ u % 2 * 2 ^ 63 + 0x7ff0000000000000 + 1 + u / 2 % (2 ^ 52 - 1) < 18446744073709551616 := fun u => by
      have h1 := Nat.mod_lt (u / 2) (by decide : 0 < 2 ^ 52 - 1)
      constructor <;> omega
    have hq := hb (w.tape w.drawn (.nanBits .f64 a b))
    have hn : fnan ((Question.nanBits .f64 a b).cut (w.tape w.drawn (.nanBits .f64 a b))) = true := nan_rung (by
      show _ < (_ + 0x7ff0000000000000 + 1 + _) % 9223372036854775808
      rw [hq.1]
      omega)
    refine wl_run (v := .float .f64 ((Question.nanBits .f64 a b).cut (w.tape w.drawn (.nanBits .f64 a b)))) (w' := w.drew) ?_ hd ((h1 _ ⟨hq.2, .inr ⟨h, hn⟩⟩).to (hw.nil ((Fr.refl Nil w).drew)))
    unfold Ru
    intro q _ _ _ _ hs
    simp only [execOp, hs.ev hx, hs.ev hy]
    rcases ho with rfl | rfl | rfl
    all_goals
      unfold floatBits at h
      simp only at h
      simp [go_sem, binOp, Op.floatArith, h, Question.forced]
theorem pu_i2f {k : IntKind} {m : Int} (hx : ev l x = some (.int k m)) (hs' : P.underlying t = some (.int k)) (hd' : P.underlying t' = some (.float .f64)) : Pu P C n l (.convert t t' x) ty (.float .f64 (floatOfInt .f64 m)) := by
  unfold Pu
  intro q _ _ _ _ W hs _
  simp only [execOp, hs.ev hx]
  simp [convert, run_underlying hs', run_underlying hd', Conv.intToFloat, floatOfInt]
end
/-- The same, or both no numbers. -/
def Jst (a b : Nat) : Prop := a = b ∨ (fnan a = true ∧ fnan b = true)
theorem Jst.refl (a : Nat) : Jst a a := .inl rfl
theorem Jst.just {a b : Nat} (h : Jst a b) : justF a b = true := by
  rcases h with rfl | ⟨h1, h2⟩
  · exact just_self a
  · unfold justF
    rw [h1, h2]
    rfl
theorem fb_nan {o : BinOp} (ho : o = .add ∨ o = .mul ∨ o = .quo) {a b : Nat} (h : fnan a = true ∨ fnan b = true) : floatBits o .f64 a b = none := by
  rw [fnan_eq, fnan_eq] at h
  have key : ∀ c d : Ieee.Datum, (c.isNaN = true ∨ d.isNaN = true) → c.sum d = none ∧ c.product d = none ∧ c.quotient (Ieee.double.fractionBits + 2) d = none := by
    intro c d h
    cases c <;> cases d <;> first | exact ⟨rfl, rfl, rfl⟩ | simp [Ieee.Datum.isNaN] at h
  obtain ⟨h1, h2, h3⟩ := key _ _ h
  rcases ho with rfl | rfl | rfl
  · show ((Ieee.double.read a).sum (Ieee.double.read b)).map Ieee.double.write = none
    rw [h1]
    rfl
  · show ((Ieee.double.read a).product (Ieee.double.read b)).map Ieee.double.write = none
    rw [h2]
    rfl
  · show ((Ieee.double.read a).quotient (Ieee.double.fractionBits + 2) (Ieee.double.read b)).map Ieee.double.write = none
    rw [h3]
    rfl
theorem FOp.jst {o : BinOp} (ho : o = .add ∨ o = .mul ∨ o = .quo) {a a' b b' r r' : Nat} (ha : Jst a a') (hb : Jst b b') (h : FOp o a b r) (h' : FOp o a' b' r') : Jst r r' := by
  have hnn : ∀ {x y z : Nat}, (fnan x = true ∨ fnan y = true) → FOp o x y z → fnan z = true := fun hx hz => by
    have := fb_nan ho hx
    rcases hz.2 with h1 | h1
    · rw [this] at h1
      cases h1
    · exact h1.2
  rcases ha with rfl | ⟨h1, h2⟩
  · rcases hb with rfl | ⟨h1, h2⟩
    · rcases h.2 with h3 | h3 <;> rcases h'.2 with h4 | h4
      · rw [h3] at h4
        injection h4 with h4
        exact .inl h4
      · rw [h3] at h4
        cases h4.1
      · rw [h4] at h3
        cases h3.1
      · exact .inr ⟨h3.2, h4.2⟩
    · exact .inr ⟨hnn (.inr h1) h, hnn (.inr h2) h'⟩
  · exact .inr ⟨hnn (.inl h1) h, hnn (.inl h2) h'⟩
end Go.Proofs.Ytidphdlhghgglaa
