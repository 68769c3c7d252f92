/- Numbers of the fields: their cells; sums; what is below what. -/
import Derived.Test.YtdmeofobljjpfaaReg4
import Derived.Test.YtdmeofobljjpfaaAp
import Derived.Laws.Externs
namespace Go.Proofs.Ytdmeofobljjpfaa
open Go.RowKit
attribute [local irreducible] Go.Calls Go.Exit.then Go.Exit.inBlock Go.bodyPost Go.Code.wp Go.wpList
/-- An element: a number below 2^128, its low 64 bits, its high ones. -/
def eC (v : Int) : List Value := [.int .u64 (v % 18446744073709551616), .int .u64 (v / 18446744073709551616)]
theorem eC_len (v : Int) : (eC v).length = 2 := rfl
theorem eC_one (v : Int) : ∀ u ∈ eC v, u.oneCell' = true := by
  intro u hu
  simp only [eC, List.mem_cons, List.not_mem_nil, or_false] at hu
  rcases hu with rfl | rfl <;> rfl
def El (v : Int) : Prop := 0 ≤ v ∧ v < 340282366920938463463374607431768211456
theorem El.lo {v : Int} : 0 ≤ v % 18446744073709551616 ∧ v % 18446744073709551616 < 18446744073709551616 := by omega
theorem El.hi {v : Int} (h : El v) : 0 ≤ v / 18446744073709551616 ∧ v / 18446744073709551616 < 18446744073709551616 := by unfold El at h; omega
theorem eC_of {a b : Int} (ha : 0 ≤ a ∧ a < 18446744073709551616) : [Value.int .u64 a, .int .u64 b] = eC (a + 18446744073709551616 * b) := by
  unfold eC
  rw [show (a + 18446744073709551616 * b) % 18446744073709551616 = a by omega, show (a + 18446744073709551616 * b) / 18446744073709551616 = b by omega]
theorem El.of {a b : Int} (ha : 0 ≤ a ∧ a < 18446744073709551616) (hb : 0 ≤ b ∧ b < 18446744073709551616) : El (a + 18446744073709551616 * b) := by unfold El; omega
def sub64Row : Array Value → Sem Value := fun args => do
  let (x, y, b) ← Extern.MathBitsCarry.three "Sub64" args
  pure (Extern.MathBitsCarry.pair ((x + Extern.MathBitsCarry.m64 - y - b) % Extern.MathBitsCarry.m64) (if x < y + b then 1 else 0))
theorem add64_row (args : Array Value) (w : World) : (callFunc 68 args).run Try.prog w = (add64Entry args >>= fun v => pure (Next.value v)).run Try.prog w := by kernel_rfl
theorem sub64_row (args : Array Value) (w : World) : (callFunc 79 args).run Try.prog w = (sub64Row args >>= fun v => pure (Next.value v)).run Try.prog w := by kernel_rfl
theorem run_a64 {x y c : Int} (hx : 0 ≤ x) (hy : 0 ≤ y) (hc : 0 ≤ c ∧ c ≤ 1) (w : World) : (callFunc 68 #[.int .u64 x, .int .u64 y, .int .u64 c]).run Try.prog w = .ok (.value (.tuple #[.int .u64 ((x + y + c) % 18446744073709551616), .int .u64 ((x + y + c) / 18446744073709551616)])) w := by
  rw [add64_row, Sem.run_bind, run_add64 x y c hx hy hc.1 hc.2]
  rfl
theorem run_s64 {x y c : Int} (hx : 0 ≤ x) (hy : 0 ≤ y ∧ y < 18446744073709551616) (hc : 0 ≤ c ∧ c ≤ 1) (w : World) : (callFunc 79 #[.int .u64 x, .int .u64 y, .int .u64 c]).run Try.prog w = .ok (.value (.tuple #[.int .u64 ((x - y - c) % 18446744073709551616), .int .u64 (if x < y + c then 1 else 0)])) w := by
  rw [sub64_row, Sem.run_bind]
  have key : ∀ k : Nat, k ≤ 1 → (sub64Row #[.int .u64 x, .int .u64 y, .int .u64 (k : Int)]).run Try.prog w =
      .ok (Extern.MathBitsCarry.pair ((x.toNat + Extern.MathBitsCarry.m64 - y.toNat - k) % Extern.MathBitsCarry.m64) (if x.toNat < y.toNat + k then 1 else 0)) w := by
    intro k hk
    have : k = 0 ∨ k = 1 := by omega
    rcases this with rfl | rfl <;> rfl
  obtain ⟨k, rfl⟩ := Int.eq_ofNat_of_zero_le hc.1
  rw [key k (by omega)]
  obtain ⟨X, rfl⟩ := Int.eq_ofNat_of_zero_le hx
  obtain ⟨Y, rfl⟩ := Int.eq_ofNat_of_zero_le hy.1
  simp only [Extern.MathBitsCarry.pair, Extern.MathBitsCarry.m64, Int.toNat_natCast]
  have e1 : Int.ofNat ((X + 2 ^ 64 - Y - k) % 2 ^ 64) = ((X : Int) - Y - k) % 18446744073709551616 := by
    simp only [Int.ofNat_eq_natCast]
    omega
  have e2 : Int.ofNat (if X < Y + k then 1 else 0) = if (X : Int) < Y + k then 1 else 0 := by
    by_cases h : X < Y + k
    · rw [if_pos h, if_pos (by omega)]; rfl
    · rw [if_neg h, if_neg (by omega)]; rfl
  rw [e1, e2]
  rfl
theorem nth_Ga {φ : Prop} (h : φ := by (first | rfl | rfl)) : φ := h
theorem mid_Ga {φ : Prop} (h : φ := by (first | exact Mid.all | exact Mid.all | exact Mid.head)) : φ := h
theorem sz_Ga {φ : Prop} (h : φ := by (first | rfl | (rfl; first | done | fail))) : φ := h
theorem one_Ga {φ : Prop} (h : φ := by (first | assumption | exact first | exact eC_one _ | exact one_bytes _ | (simp only [List.mem_cons, List.not_mem_nil, or_false, forall_eq_or_imp, forall_eq]; decide) | exact one_bytes _)) : φ := h
theorem set_Ga {φ : Prop} (h : φ := by (first | (fail) | ((repeat (first | exact SetAt.here | apply SetAt.there)); first | done | fail))) : φ := h
theorem cl_Ga {φ : Prop} (h : φ := by first | rfl | exact .t | exact .f | exact .t (by omega) | exact .f (by omega) | exact .u | exact .i (by (first | exact .t (by omega) | exact .f (by omega) | exact .u | exact .i (by omega) | exact .v (by omega) | exact .b (by omega) | exact .w | rfl | omega)) | exact .v (by omega) | exact .b (by omega) | exact .q (by omega) | exact .w | exact .b (by exact at_) rfl (by exact nth_Ga) | exact .w (by exact at_) rfl rfl (by exact sz_Ga) | exact .s (by exact at_) (by exact mid_Ga) rfl rfl (by exact sz_Ga) | exact .z rfl rfl ⟨by kernel_rfl⟩ | exact .b rfl rfl ⟨by kernel_rfl⟩ | exact .a rfl rfl ⟨by kernel_rfl⟩ | exact .o rfl | exact .s | exact .n | exact .p rfl | exact .q rfl | exact .c rfl | exact .d rfl | exact .n rfl rfl (by omega) | exact .a rfl rfl (by omega) | exact .p rfl rfl (by omega) (by omega) | exact .y rfl rfl (by omega) (by omega) | exact .o (by exact at_) (by omega) rfl (by exact nth_Ga) | exact .m (by exact at_) (by omega) (by exact mid_Ga) rfl rfl (by exact sz_Ga) | exact .mlen (by exact at_) rfl | exact .t (by exact at_) rfl rfl (by first | exact True.intro | rfl) (by assumption) | exact .f (by exact at_) rfl rfl (by first | exact True.intro | rfl) (by assumption) rfl | exact .t1 (by exact at_) rfl rfl (by first | exact True.intro | rfl) (by assumption) | exact .f1 (by exact at_) rfl rfl (by first | exact True.intro | rfl) (by assumption) rfl | exact .r rfl rfl (by omega) (by omega) (by exact nth_Ga) rfl | exact .s rfl (by omega) (by assumption) | exact at_ | assumption | exact .r rfl rfl | exact .h rfl rfl rfl (by omega) | exact .l rfl rfl rfl (by omega) (by omega) | exact .g rfl rfl rfl rfl (by omega) (by omega) | exact .h rfl rfl (toN_ (by omega)) (by omega) | exact .l rfl rfl (toN_ (by omega)) (by omega) (by omega) | exact .g rfl rfl (toN_ (by omega)) (toN_ (by omega)) (by omega) (by omega) | exact .o (by decide) | exact .f (by decide) | exact .n (by omega) (by first | decide | (show _ ≤ ((64 : Nat) : Int); omega)) | (constructor; (repeat (first | exact .t (by omega) | exact .f (by omega) | exact .u | exact .i (by omega) | exact .v (by omega) | exact .b (by omega) | exact .w | rfl | omega)); first | done | fail) | omega | (show _ ≤ ((64 : Nat) : Int); omega)) : φ := h
theorem pv_Ga {φ : Prop} (h : φ := by constructor; (repeat exact cl_Ga); first | done | fail) : φ := h
theorem su_Ga {φ ψ : Prop} (k : ψ) (h : Hide ψ → φ := by (intro k; (first | refine sl_pu (PuI.sep (by exact pv_Ga)) rfl ?_ | refine sl_yes rfl rfl ?_ | refine sl_no rfl rfl rfl ?_ | refine sl_off rfl rfl rfl ?_ | (fail)); exact k.out)) : φ := h ⟨k⟩
theorem rq_Ga {φ ψ : Prop} (k : ψ) (h : Hide ψ → φ := by (intro k; (first | refine wq_pu (PuI.sep (by exact pv_Ga)) rfl ?_ | refine wq_yes rfl rfl ?_ | refine wq_no rfl rfl rfl ?_ | refine wq_off rfl rfl rfl ?_ | (fail)); exact k.out)) : φ := h ⟨k⟩
theorem sto_Ga {φ ψ : Prop} (k : ψ) (h : Hide ψ → φ := by (intro k; (first | refine sl_store rfl (by exact pick_) rfl rfl (by kernel_rfl) (by exact set_Ga) ?_ | refine sl_store_whole rfl (by exact pick_) rfl (by exact sz_Ga) (by exact sz_Ga) (by exact one_Ga) ?_); exact k.out)) : φ := h ⟨k⟩
theorem go_Ga {φ ψ : Prop} (k : ψ) (h : Hide ψ → φ := by (intro k; (repeat (first | refine su_Ga ?_ | refine so_ ?_ | refine sto_Ga ?_)); exact k.out)) : φ := h ⟨k⟩
/-! The small field. -/
set_option maxRecDepth 100000 in
theorem gOf_ok {K : List Fa} {a : Int} (h : 0 ≤ a ∧ a < 18446744073709551616) : Fn Try.prog 69 #[.int .u64 a] K (Ret (fun _ : Unit => True) (fun _ => .int .u64 (a % 18446744069414584321)) (fun _ => K)) := by
  refine fn_enter Try.func69 rfl _ Try.ntmps69 (by simp) [(0, .int .u64 a)] (args_of (by simp)) ?_
  by_cases h1 : 18446744069414584321 ≤ a
  · rw [show a % 18446744069414584321 = a - 18446744069414584321 by omega]
    refine go_Ga ?_
    exact se_ret1 () trivial rfl rfl (by exact sub_)
  · rw [show a % 18446744069414584321 = a by omega]
    refine go_Ga ?_
    exact se_ret1 () trivial rfl rfl (by exact sub_)
set_option maxRecDepth 100000 in
theorem gAdd_ok {K : List Fa} {a b : Int} (ha : 0 ≤ a ∧ a < 18446744073709551616) (hb : 0 ≤ b ∧ b < 18446744073709551616) : Fn Try.prog 56 #[.int .u64 a, .int .u64 b] K (Ret (fun _ : Unit => True) (fun _ => .int .u64 ((a + b) % 18446744069414584321)) (fun _ => K)) := by
  refine fn_enter Try.func56 rfl _ Try.ntmps56 (by simp) [(0, .int .u64 a), (1, .int .u64 b)] (args_of (by simp)) ?_
  refine go_Ga ?_
  refine sl_call rfl rfl (by kernel_rfl) rfl (by exact sub_) (gOf_ok ha) ?_; rintro _ -
  refine go_Ga ?_
  refine sl_call rfl rfl (by kernel_rfl) rfl (by exact sub_) (gOf_ok hb) ?_; rintro _ -
  rw [show (a + b) % 18446744069414584321 = (a % 18446744069414584321 + b % 18446744069414584321) % 18446744069414584321 by omega]
  obtain ⟨x, hx⟩ : ∃ x, a % 18446744069414584321 = x := ⟨_, rfl⟩
  obtain ⟨y, hy⟩ : ∃ y, b % 18446744069414584321 = y := ⟨_, rfl⟩
  rw [hx, hy]
  have hx' : 0 ≤ x ∧ x < 18446744069414584321 := by omega
  have hy' : 0 ≤ y ∧ y < 18446744069414584321 := by omega
  clear hx hy ha hb
  refine sl_pu (pu_ext (cap := []) rfl rfl (fun W _ => run_a64 hx'.1 hy'.1 (by decide) W)) rfl ?_
  by_cases h1 : x + y < 18446744069414584321
  · rw [show (x + y + 0) % 18446744073709551616 = x + y by omega, show (x + y + 0) / 18446744073709551616 = 0 by omega, show (x + y) % 18446744069414584321 = x + y by omega]
    refine go_Ga ?_
    exact se_ret1 () trivial rfl rfl (by exact sub_)
  by_cases h2 : x + y < 18446744073709551616
  · rw [show (x + y + 0) % 18446744073709551616 = x + y by omega, show (x + y + 0) / 18446744073709551616 = 0 by omega, show (x + y) % 18446744069414584321 = x + y - 18446744069414584321 by omega]
    refine go_Ga ?_
    exact se_ret1 () trivial rfl rfl (by exact sub_)
  · rw [show (x + y + 0) % 18446744073709551616 = x + y - 18446744073709551616 by omega, show (x + y + 0) / 18446744073709551616 = 1 by omega, show (x + y) % 18446744069414584321 = x + y - 18446744069414584321 by omega]
    obtain ⟨z, hz⟩ : ∃ z, x + y - 18446744073709551616 = z := ⟨_, rfl⟩
    rw [show x + y - 18446744069414584321 = z + 4294967295 by omega, hz]
    have hz' : 0 ≤ z ∧ z < 18446744065119617026 := by omega
    refine go_Ga ?_
    rw [show IntKind.wrap .u64 (z - 18446744069414584321) = z + 4294967295 by simp [IntKind.wrap, IntKind.bits, IntKind.signed]; omega]
    refine go_Ga ?_
    exact se_ret1 () trivial rfl rfl (by exact sub_)
end Go.Proofs.Ytdmeofobljjpfaa
