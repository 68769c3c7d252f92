/- The fixed fact of chapter 30. -/
import Derived.Test.YtidphdlhghgglaaSm
namespace Go.Proofs.Ytidphdlhghgglaa
open Go.RowKit
attribute [local irreducible] Go.Calls Go.Exit.then Go.Exit.inBlock Go.bodyPost Go.Code.wp Go.wpList
theorem pu_andNot {P : Program} {C : World → Prop} {n : Nat} {l : Env} {x y : Operand} {t t' ty : TypeId} {k : IntKind} {p q : Int} (hx : ev l x = some (.int k p)) (hy : ev l y = some (.int k q)) : Pu P C n l (.binOp .andNot t x y t') ty (.int k (bits .andNot k p q)) := by
  unfold Pu
  intro a _ _ _ _ W hs _
  simp only [execOp, hs.ev hx, hs.ev hy]
  simp [go_sem]
theorem nth_Sa {φ : Prop} (h : φ := by (first | rfl | assumption)) : φ := h
theorem mid_Sa {φ : Prop} (h : φ := by (first | exact Mid.all | exact Mid.all | exact Mid.head)) : φ := h
theorem sz_Sa {φ : Prop} (h : φ := by (first | rfl | (rfl; first | done | fail))) : φ := h
theorem one_Sa {φ : Prop} (h : φ := by (first | assumption | exact first | exact summ_one | exact one_bytes _ | (simp only [List.mem_cons, List.not_mem_nil, or_false, forall_eq_or_imp, forall_eq]; decide) | exact one_bytes _)) : φ := h
theorem set_Sa {φ : Prop} (h : φ := by (first | (fail) | ((repeat (first | exact SetAt.here | apply SetAt.there)); first | done | fail))) : φ := h
theorem cl_Sa {φ : Prop} (h : φ := by first | rfl | exact .t | exact .f | exact .t (by omega) | exact .f (by omega) | exact .u | exact .i (by (first | exact .t (by omega) | exact .f (by omega) | exact .u | exact .i (by omega) | exact .v (by omega) | exact .b (by omega) | exact .w | rfl | omega)) | exact .v (by omega) | exact .b (by omega) | exact .q (by omega) | exact .w | exact .b (by exact at_) rfl (by exact nth_Sa) | exact .w (by exact at_) rfl rfl (by exact sz_Sa) | exact .s (by exact at_) (by exact mid_Sa) rfl rfl (by exact sz_Sa) | exact .z rfl rfl ⟨by kernel_rfl⟩ | exact .b rfl rfl ⟨by kernel_rfl⟩ | exact .a rfl rfl ⟨by kernel_rfl⟩ | exact .o rfl | exact .s | exact .n | exact .p rfl | exact .q rfl | exact .c rfl | exact .d rfl | exact .n rfl rfl (by omega) | exact .a rfl rfl (by omega) | exact .p rfl rfl (by omega) (by omega) | exact .y rfl rfl (by omega) (by omega) | exact .o (by exact at_) (by omega) rfl (by exact nth_Sa) | exact .m (by exact at_) (by omega) (by exact mid_Sa) rfl rfl (by exact sz_Sa) | exact .mlen (by exact at_) rfl | exact .t (by exact at_) rfl rfl (by first | exact True.intro | rfl) (by assumption) | exact .f (by exact at_) rfl rfl (by first | exact True.intro | rfl) (by assumption) rfl | exact .t1 (by exact at_) rfl rfl (by first | exact True.intro | rfl) (by assumption) | exact .f1 (by exact at_) rfl rfl (by first | exact True.intro | rfl) (by assumption) rfl | exact .r rfl rfl (by omega) (by omega) (by exact nth_Sa) rfl | exact .s rfl (by omega) (by assumption) | exact at_ | assumption | exact .r rfl rfl | exact .h rfl rfl rfl (by omega) | exact .l rfl rfl rfl (by omega) (by omega) | exact .g rfl rfl rfl rfl (by omega) (by omega) | exact .h rfl rfl (toN_ (by omega)) (by omega) | exact .l rfl rfl (toN_ (by omega)) (by omega) (by omega) | exact .g rfl rfl (toN_ (by omega)) (toN_ (by omega)) (by omega) (by omega) | exact .o (by decide) | exact .f (by decide) | exact .n (by omega) (by first | decide | (show _ ≤ ((64 : Nat) : Int); omega)) | (constructor; (repeat (first | exact .t (by omega) | exact .f (by omega) | exact .u | exact .i (by omega) | exact .v (by omega) | exact .b (by omega) | exact .w | rfl | omega)); first | done | fail) | omega | (show _ ≤ ((64 : Nat) : Int); omega)) : φ := h
theorem pv_Sa {φ : Prop} (h : φ := by constructor; (repeat exact cl_Sa); first | done | fail) : φ := h
theorem su_Sa {φ ψ : Prop} (k : ψ) (h : Hide ψ → φ := by (intro k; (first | refine sl_pu (PuI.sep (by exact pv_Sa)) rfl ?_ | refine sl_yes rfl rfl ?_ | refine sl_no rfl rfl rfl ?_ | refine sl_off rfl rfl rfl ?_ | (fail)); exact k.out)) : φ := h ⟨k⟩
theorem rq_Sa {φ ψ : Prop} (k : ψ) (h : Hide ψ → φ := by (intro k; (first | refine wq_pu (PuI.sep (by exact pv_Sa)) rfl ?_ | refine wq_yes rfl rfl ?_ | refine wq_no rfl rfl rfl ?_ | refine wq_off rfl rfl rfl ?_ | (fail)); exact k.out)) : φ := h ⟨k⟩
theorem sto_Sa {φ ψ : Prop} (k : ψ) (h : Hide ψ → φ := by (intro k; (first | refine sl_store rfl (by exact pick_) rfl rfl (by kernel_rfl) (by exact set_Sa) ?_ | refine sl_store_whole rfl (by exact pick_) rfl (by exact sz_Sa) (by exact sz_Sa) (by exact one_Sa) ?_); exact k.out)) : φ := h ⟨k⟩
theorem go_Sa {φ ψ : Prop} (k : ψ) (h : Hide ψ → φ := by (intro k; (repeat (first | refine su_Sa ?_ | refine so_ ?_ | refine sto_Sa ?_)); exact k.out)) : φ := h ⟨k⟩
set_option maxRecDepth 100000 in
theorem copysign_ok {K : List Fa} : Fn Try.prog 23 #[.float .f64 0, .float .f64 13830554455654793216] K (Ret (fun _ : Unit => True) (fun _ => .float .f64 9223372036854775808) (fun _ => K)) := by
  refine fn_enter Try.func23 rfl _ Try.ntmps23 (by simp) [(0, .float .f64 0), (1, .float .f64 13830554455654793216)] (args_of (by simp)) ?_
  refine go_Sa ?_
  refine sl_pu (pu_ext (cap := []) rfl rfl (fun W _ => run_bits 0 W)) rfl ?_
  refine sl_pu (pu_andNot rfl rfl) rfl ?_
  refine go_Sa ?_
  refine sl_pu (pu_ext (cap := []) rfl rfl (fun W _ => run_bits 13830554455654793216 W)) rfl ?_
  refine go_Sa ?_
  refine sl_pu (pu_ext (cap := []) rfl rfl (fun W _ => run_frombits 9223372036854775808 W)) rfl ?_
  refine go_Sa ?_
  exact se_ret1 () trivial rfl rfl (by exact sub_)
theorem signbit_ok {K : List Fa} {x : Nat} (hx : x < 18446744073709551616) : Fn Try.prog 24 #[.float .f64 x] K (Ret (fun _ : Unit => True) (fun _ => .bool (fneg x)) (fun _ => K)) := fn_same (signbit_c x hx)
/-- Steps on floats. -/
theorem pu_feql {P : Program} {C : World → Prop} {n : Nat} {l : Env} {x y : Operand} {t t' ty : TypeId} {a b : Nat} (hx : ev l x = some (.float .f64 a)) (hy : ev l y = some (.float .f64 b)) : Pu P C n l (.binOp .eql t x y t') ty (.bool (fEq a b)) := by
  unfold Pu
  intro q _ _ _ _ W hs _
  simp only [execOp, hs.ev hx, hs.ev hy]
  simp [go_sem, fEq]
theorem pu_flss {P : Program} {C : World → Prop} {n : Nat} {l : Env} {x y : Operand} {t t' ty : TypeId} {a b : Nat} (hx : ev l x = some (.float .f64 a)) (hy : ev l y = some (.float .f64 b)) : Pu P C n l (.binOp .lss t x y t') ty (.bool (fLt a b)) := by
  unfold Pu
  intro q _ _ _ _ W hs _
  simp only [execOp, hs.ev hx, hs.ev hy]
  simp [go_sem, fLt]
theorem nums_awake : numsOf [9221120237041090561, 4611686018427387904, 9223372036854775808, 0] = [⟨4611686018427387904, by rw [fnan_eq]; rfl, by decide⟩, ⟨9223372036854775808, by rw [fnan_eq]; rfl, by decide⟩, ⟨0, by rw [fnan_eq]; rfl, by decide⟩] := by
  have h0 : fnan 9221120237041090561 = true := by rw [fnan_eq]; rfl
  have h1 : fnan 4611686018427387904 = false := by rw [fnan_eq]; rfl
  have h2 : fnan 9223372036854775808 = false := by rw [fnan_eq]; rfl
  have h3 : fnan 0 = false := by rw [fnan_eq]; rfl
  rw [nums_cons, dif_neg (by rw [h0]; simp), nums_cons, dif_pos ⟨h1, by decide⟩, nums_cons, dif_pos ⟨h2, by decide⟩, nums_cons, dif_pos ⟨h3, by decide⟩]
  rfl
def k2 : Int := 2 * (fv 4611686018427387904) + 1
theorem fv_0 : fv 0 = 0 := by
  show Ieee.signed false 0 _ = 0
  simp [Ieee.signed]
theorem fv_m0 : fv 9223372036854775808 = 0 := by
  show Ieee.signed true 0 _ = 0
  simp [Ieee.signed]
theorem fv_2 : 0 < fv 4611686018427387904 := by
  have h : Ieee.double.read 4611686018427387904 = .number false 4503599627370496 (-51) := by rfl
  unfold fv
  rw [h]
  show 0 < Ieee.signed false 4503599627370496 ((-51 : Int) + 1074).toNat
  unfold Ieee.signed
  rw [if_neg (by decide), Nat.shiftLeft_eq]
  have := Nat.two_pow_pos ((-51 : Int) + 1074).toNat
  have h2 : 0 < 4503599627370496 * 2 ^ ((-51 : Int) + 1074).toNat := Nat.mul_pos (by decide) this
  exact Int.natCast_pos.2 h2
theorem awake_sorted {d : List Fp} (hp : d.Perm (numsOf [9221120237041090561, 4611686018427387904, 9223372036854775808, 0])) (hs : d.Pairwise (fun a b => key a.x ≤ key b.x)) : ∃ a b c, d = [a, b, c] ∧ a.x = 9223372036854775808 ∧ b.x = 0 ∧ c.x = 4611686018427387904 := by
  rw [nums_awake] at hp
  have hlen := hp.length_eq
  obtain ⟨a, b, c, rfl⟩ : ∃ a b c, d = [a, b, c] := by
    match d, hlen with
    | [a, b, c], _ => exact ⟨a, b, c, rfl⟩
  have hka : key 4611686018427387904 = k2 := by
    unfold key k2
    rw [show fneg 4611686018427387904 = false by rfl]
    rfl
  have hkb : key 9223372036854775808 = 0 := by
    unfold key
    rw [fv_m0, show fneg 9223372036854775808 = true by rfl]
    rfl
  have hkc : key 0 = 1 := by
    unfold key
    rw [fv_0, show fneg 0 = false by rfl]
    rfl
  have hk2 : 1 < k2 := by
    have := fv_2
    unfold k2
    omega
  have hm := hp.map Fp.x
  have hk : [a.x, b.x, c.x].Pairwise (fun x y => key x ≤ key y) := by simpa using hs
  simp only [List.map_cons, List.map_nil] at hm
  have e := List.Perm.eq_of_pairwise (le := fun x y => key x ≤ key y) (l₁ := [a.x, b.x, c.x]) (l₂ := [9223372036854775808, 0, 4611686018427387904]) (fun x y hx hy h1 h2 => ?_) hk (by simp [hka, hkb, hkc]; omega) (hm.trans ?_)
  · simp only [List.cons.injEq, and_true] at e
    exact ⟨a, b, c, rfl, e⟩
  · have hx' := hm.mem_iff.1 hx
    simp only [List.mem_cons, List.not_mem_nil, or_false] at hx' hy
    rcases hx' with rfl | rfl | rfl <;> rcases hy with rfl | rfl | rfl <;> simp only [hka, hkb, hkc] at h1 h2 <;> first | rfl | omega
  · exact (List.Perm.cons _ (List.Perm.refl _)).trans (List.perm_iff_count.2 fun z => by simp only [List.count_cons, List.count_nil]; omega)
theorem summA {a b c : Fp} (ha : a.x = 9223372036854775808) (hb : b.x = 0) (hc : c.x = 4611686018427387904) : Value.agg (summC [a, b, c]).toArray = .agg #[.int .i64 3, .float .f64 9223372036854775808, .float .f64 4611686018427387904, .float .f64 0] := by
  unfold summC
  simp [fl, ha, hb, hc]
theorem fEq_self {x : Nat} (h : fnan x = false) : fEq x x = true := by
  rw [fEq_of h h]
  simp
theorem fl_oneA {a b c d : Nat} : ∀ u ∈ [Value.float .f64 a, .float .f64 b, .float .f64 c, .float .f64 d], u.oneCell' = true := by
  intro u hu
  simp only [List.mem_cons, List.not_mem_nil, or_false] at hu
  rcases hu with rfl | rfl | rfl | rfl <;> rfl
set_option maxRecDepth 100000 in
set_option maxHeartbeats 2000000 in
theorem awake30 {K : List Fa} : Fn Try.prog 9 #[] K (Ret (fun _ : Unit => True) (fun _ => .bool true) (fun _ => K)) := by
  refine fn_enter Try.func9 rfl _ Try.ntmps9 (by simp) [] (args_of (by simp)) ?_
  refine go_Sa ?_
  refine sl_call rfl rfl (by kernel_rfl) rfl Sub.refl (fn_same nan_c) ?_
  rintro _ -
  refine go_Sa ?_
  refine sl_call rfl rfl (by kernel_rfl) rfl Sub.refl copysign_ok ?_
  rintro _ -
  refine go_Sa ?_
  refine sl_build (size := 1) (e := 24) (cells := [9221120237041090561, 4611686018427387904, 9223372036854775808, 0].map fl) rfl (fun W => by kernel_rfl) rfl (by decide) rfl ?_
  intro gb
  refine go_Sa ?_
  refine sl_call rfl rfl (by kernel_rfl) rfl Sub.refl (summ_ok (xs := [9221120237041090561, 4611686018427387904, 9223372036854775808, 0]) (Vw.of_own (e := 24) (A := some ⟨gb, 0, none⟩) (c := 4) (by exact at_)) (by decide) (by decide)) ?_
  rintro d ⟨hp, hs⟩
  obtain ⟨a, b, c, rfl, ha, hb, hc⟩ := awake_sorted hp hs
  rw [summA ha hb hc]
  refine go_Sa ?_
  refine sl_alloc rfl rfl rfl ?_; intro g1
  refine go_Sa ?_
  refine sl_pu (pu_feql rfl rfl) rfl ?_
  rw [show fEq 9223372036854775808 0 = true by rw [fEq_of (by rw [fnan_eq]; rfl) (by rw [fnan_eq]; rfl), fv_m0, fv_0]; rfl]
  refine go_Sa ?_
  refine sl_call rfl rfl (by kernel_rfl) rfl Sub.refl (signbit_ok (by decide)) ?_
  rintro _ -
  rw [show fneg 9223372036854775808 = true from rfl]
  refine go_Sa ?_
  refine sl_pu (pu_feql rfl rfl) rfl ?_
  rw [show fEq 4611686018427387904 4611686018427387904 = true from fEq_self (by rw [fnan_eq]; rfl)]
  refine go_Sa ?_
  refine sl_pu (pu_feql rfl rfl) rfl ?_
  rw [show fEq 0 0 = true from fEq_self (by rw [fnan_eq]; rfl)]
  refine go_Sa ?_
  refine sl_call rfl rfl (by kernel_rfl) rfl Sub.refl (signbit_ok (by decide)) ?_
  rintro _ -
  rw [show fneg 0 = false from rfl]
  refine go_Sa ?_
  exact se_ret1 () trivial rfl rfl (by exact sub_)
end Go.Proofs.Ytidphdlhghgglaa
