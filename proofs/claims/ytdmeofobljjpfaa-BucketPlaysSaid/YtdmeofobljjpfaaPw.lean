/- pack.Writer over facts; the reference's Uint and Long. -/
import Derived.Test.YtdmeofobljjpfaaSp4
import Derived.Test.YtdmeofobljjpfaaIds
import Derived.Test.YtdmeofobljjpfaaNum
import Derived.Test.YtdmeofobljjpfaaAp
namespace Go.Proofs.Ytdmeofobljjpfaa
open Go.RowKit
attribute [local irreducible] Go.Calls Go.Exit.then Go.Exit.inBlock Go.bodyPost Go.Code.wp Go.wpList

abbrev u8o (A : Option Addr) (c : Nat) (bs : List Int) : Fa := own 5 1 A bs.length c (bytes bs)
theorem vw_len {K : List Fa} {X : Option Addr} {m : Nat} {xs : List Int} (hr : Vw K (fun w => Reads w 1 X m (bytes xs))) : ∀ w, Sep w K → xs.length = m := fun w hw => by
  have := (hr w hw).1
  simpa [bytes] using this
theorem bytes_app (a b : List Int) : bytes (a ++ b) = bytes a ++ bytes b := by simp [bytes]

theorem nth_Pw {φ : Prop} (h : φ := by (first | rfl | rfl)) : φ := h
theorem mid_Pw {φ : Prop} (h : φ := by (first | exact Mid.all | exact Mid.all | exact Mid.head)) : φ := h
theorem sz_Pw {φ : Prop} (h : φ := by (first | rfl | (rfl; first | done | fail))) : φ := h
theorem one_Pw {φ : Prop} (h : φ := by (first | assumption | exact one_bytes _ | (simp only [List.mem_cons, List.not_mem_nil, or_false, forall_eq_or_imp, forall_eq]; decide) | exact one_bytes _)) : φ := h
theorem set_Pw {φ : Prop} (h : φ := by (first | (fail) | ((repeat (first | exact SetAt.here | apply SetAt.there)); first | done | fail))) : φ := h
theorem cl_Pw {φ : Prop} (h : φ := by first | rfl | exact .t | exact .f | exact .t (by omega) | exact .f (by omega) | exact .u | exact .i (by (first | exact .t (by omega) | exact .f (by omega) | exact .u | exact .i (by omega) | exact .v (by omega) | exact .b (by omega) | exact .w | rfl | omega)) | exact .v (by omega) | exact .b (by omega) | exact .q (by omega) | exact .w | exact .b (by exact at_) rfl (by exact nth_Pw) | exact .w (by exact at_) rfl rfl (by exact sz_Pw) | exact .s (by exact at_) (by exact mid_Pw) rfl rfl (by exact sz_Pw) | exact .z rfl rfl ⟨by kernel_rfl⟩ | exact .b rfl rfl ⟨by kernel_rfl⟩ | exact .a rfl rfl ⟨by kernel_rfl⟩ | exact .o rfl | exact .s | exact .n | exact .p rfl | exact .q rfl | exact .c rfl | exact .d rfl | exact .n rfl rfl (by omega) | exact .a rfl rfl (by omega) | exact .p rfl rfl (by omega) (by omega) | exact .y rfl rfl (by omega) (by omega) | exact .o (by exact at_) (by omega) rfl (by exact nth_Pw) | exact .m (by exact at_) (by omega) (by exact mid_Pw) rfl rfl (by exact sz_Pw) | exact .mlen (by exact at_) rfl | exact .t (by exact at_) rfl rfl (by first | exact True.intro | rfl) (by assumption) | exact .f (by exact at_) rfl rfl (by first | exact True.intro | rfl) (by assumption) rfl | exact .t1 (by exact at_) rfl rfl (by first | exact True.intro | rfl) (by assumption) | exact .f1 (by exact at_) rfl rfl (by first | exact True.intro | rfl) (by assumption) rfl | exact .r rfl rfl (by omega) (by omega) (by exact nth_Pw) rfl | exact .s rfl (by omega) (by assumption) | exact at_ | assumption | exact .r rfl rfl | exact .h rfl rfl rfl (by omega) | exact .l rfl rfl rfl (by omega) (by omega) | exact .g rfl rfl rfl rfl (by omega) (by omega) | exact .h rfl rfl (toN_ (by omega)) (by omega) | exact .l rfl rfl (toN_ (by omega)) (by omega) (by omega) | exact .g rfl rfl (toN_ (by omega)) (toN_ (by omega)) (by omega) (by omega) | exact .o (by decide) | exact .f (by decide) | exact .n (by omega) (by first | decide | (show _ ≤ ((64 : Nat) : Int); omega)) | (constructor; (repeat (first | exact .t (by omega) | exact .f (by omega) | exact .u | exact .i (by omega) | exact .v (by omega) | exact .b (by omega) | exact .w | rfl | omega)); first | done | fail) | omega | (show _ ≤ ((64 : Nat) : Int); omega)) : φ := h
theorem pv_Pw {φ : Prop} (h : φ := by constructor; (repeat exact cl_Pw); first | done | fail) : φ := h
theorem su_Pw {φ ψ : Prop} (k : ψ) (h : Hide ψ → φ := by (intro k; (first | refine sl_pu (PuI.sep (by exact pv_Pw)) rfl ?_ | refine sl_yes rfl rfl ?_ | refine sl_no rfl rfl rfl ?_ | refine sl_off rfl rfl rfl ?_ | (fail)); exact k.out)) : φ := h ⟨k⟩
theorem rq_Pw {φ ψ : Prop} (k : ψ) (h : Hide ψ → φ := by (intro k; (first | refine wq_pu (PuI.sep (by exact pv_Pw)) rfl ?_ | refine wq_yes rfl rfl ?_ | refine wq_no rfl rfl rfl ?_ | refine wq_off rfl rfl rfl ?_ | (fail)); exact k.out)) : φ := h ⟨k⟩
theorem sto_Pw {φ ψ : Prop} (k : ψ) (h : Hide ψ → φ := by (intro k; (first | refine sl_store rfl (by exact pick_) rfl rfl (by kernel_rfl) (by exact set_Pw) ?_ | refine sl_store_whole rfl (by exact pick_) rfl (by exact sz_Pw) (by exact sz_Pw) (by exact one_Pw) ?_); exact k.out)) : φ := h ⟨k⟩
theorem go_Pw {φ ψ : Prop} (k : ψ) (h : Hide ψ → φ := by (intro k; (repeat (first | refine su_Pw ?_ | refine so_ ?_ | refine sto_Pw ?_)); exact k.out)) : φ := h ⟨k⟩
theorem min_max8 {k : Nat} (hk : k ≤ 8) : (if (8 : Int) < (if (k : Int) < 0 then 0 else (k : Int)) then 8 else (if (k : Int) < 0 then 0 else (k : Int))) = (k : Int) := by
  split <;> split <;> omega
structure Wg where
  j : Nat
  A : Option Addr
  c : Nat
/-! The reference's. -/
theorem lt_of_le8 {k : Nat} (hk : k ≤ 8) {j : Nat} (h : j < k) : (j : Int) < 8 := by omega
theorem div_div256 (n : Int) (j : Nat) : n / 2 ^ (8 * j) / 256 = n / 2 ^ (8 * (j + 1)) := by
  rw [Int.ediv_ediv_of_nonneg (Int.le_of_lt (Int.pow_pos (by decide))), show (256 : Int) = 2 ^ 8 from by decide, ← Int.pow_add, Nat.mul_succ]
theorem div_rng {n : Int} (h0 : 0 ≤ n) (h1 : n ≤ 18446744073709551615) (j : Nat) : 0 ≤ n / 2 ^ (8 * j) ∧ n / 2 ^ (8 * j) ≤ 18446744073709551615 :=
  ⟨Int.ediv_nonneg h0 (Int.le_of_lt (Int.pow_pos (by decide))), Int.le_trans (Int.ediv_le_self _ h0) h1⟩
end Go.Proofs.Ytdmeofobljjpfaa
