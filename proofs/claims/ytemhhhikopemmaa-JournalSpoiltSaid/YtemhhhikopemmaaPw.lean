/- pack.Writer over facts; the reference's Uint and Long. -/
import Derived.Test.YtemhhhikopemmaaSp4
import Derived.Test.YtemhhhikopemmaaIds
import Derived.Test.YtemhhhikopemmaaNum
import Derived.Test.YtemhhhikopemmaaAp
namespace Go.Proofs.Ytemhhhikopemmaa
open Go.RowKit
attribute [local irreducible] Go.Calls Go.Exit.then Go.Exit.inBlock Go.bodyPost Go.Code.wp Go.wpList

abbrev u8o (A : Option Addr) (c : Nat) (bs : List Int) : Fa := own 5 1 A bs.length c (bytes bs)
abbrev wrb (b : Nat) (A : Option Addr) (n c : Nat) : Fa := blk b 94 [.slice A n c]
theorem vw_len {K : List Fa} {X : Option Addr} {m : Nat} {xs : List Int} (hr : Vw K (fun w => Reads w 1 X m (bytes xs))) : ∀ w, Sep w K → xs.length = m := fun w hw => by
  have := (hr w hw).1
  simpa [bytes] using this
theorem bytes_app (a b : List Int) : bytes (a ++ b) = bytes a ++ bytes b := by simp [bytes]

theorem nth_Pw {φ : Prop} (h : φ := by (first | rfl | rfl)) : φ := h
theorem mid_Pw {φ : Prop} (h : φ := by (first | exact Mid.all | exact Mid.all | exact Mid.head)) : φ := h
theorem sz_Pw {φ : Prop} (h : φ := by (first | rfl | (rfl; first | done | fail))) : φ := h
theorem one_Pw {φ : Prop} (h : φ := by (first | assumption | exact one_bytes _ | (simp only [List.mem_cons, List.not_mem_nil, or_false, forall_eq_or_imp, forall_eq]; decide) | exact one_bytes _)) : φ := h
theorem set_Pw {φ : Prop} (h : φ := by (first | (fail) | ((repeat (first | exact SetAt.here | apply SetAt.there)); first | done | fail))) : φ := h
theorem cl_Pw {φ : Prop} (h : φ := by first | rfl | exact .t | exact .f | exact .t (by omega) | exact .f (by omega) | exact .u | exact .i (by (first | exact .t (by omega) | exact .f (by omega) | exact .u | exact .i (by omega) | exact .v (by omega) | exact .b (by omega) | exact .w | rfl | omega)) | exact .v (by omega) | exact .b (by omega) | exact .q (by omega) | exact .w | exact .b (by exact at_) rfl (by exact nth_Pw) | exact .w (by exact at_) rfl rfl (by exact sz_Pw) | exact .s (by exact at_) (by exact mid_Pw) rfl rfl (by exact sz_Pw) | exact .z rfl rfl ⟨by kernel_rfl⟩ | exact .b rfl rfl ⟨by kernel_rfl⟩ | exact .a rfl rfl ⟨by kernel_rfl⟩ | exact .o rfl | exact .s | exact .n | exact .p rfl | exact .q rfl | exact .c rfl | exact .d rfl | exact .n rfl rfl (by omega) | exact .a rfl rfl (by omega) | exact .p rfl rfl (by omega) (by omega) | exact .y rfl rfl (by omega) (by omega) | exact .o (by exact at_) (by omega) rfl (by exact nth_Pw) | exact .m (by exact at_) (by omega) (by exact mid_Pw) rfl rfl (by exact sz_Pw) | exact .mlen (by exact at_) rfl | exact .t (by exact at_) rfl rfl (by first | exact True.intro | rfl) (by assumption) | exact .f (by exact at_) rfl rfl (by first | exact True.intro | rfl) (by assumption) rfl | exact .t1 (by exact at_) rfl rfl (by first | exact True.intro | rfl) (by assumption) | exact .f1 (by exact at_) rfl rfl (by first | exact True.intro | rfl) (by assumption) rfl | exact .r rfl rfl (by omega) (by omega) (by exact nth_Pw) rfl | exact .s rfl (by omega) (by assumption) | exact at_ | assumption | exact .r rfl rfl | exact .h rfl rfl rfl (by omega) | exact .l rfl rfl rfl (by omega) (by omega) | exact .g rfl rfl rfl rfl (by omega) (by omega) | exact .h rfl rfl (toN_ (by omega)) (by omega) | exact .l rfl rfl (toN_ (by omega)) (by omega) (by omega) | exact .g rfl rfl (toN_ (by omega)) (toN_ (by omega)) (by omega) (by omega) | exact .o (by decide) | exact .f (by decide) | exact .n (by omega) (by first | decide | (show _ ≤ ((64 : Nat) : Int); omega)) | (constructor; (repeat (first | exact .t (by omega) | exact .f (by omega) | exact .u | exact .i (by omega) | exact .v (by omega) | exact .b (by omega) | exact .w | rfl | omega)); first | done | fail) | omega | (show _ ≤ ((64 : Nat) : Int); omega)) : φ := h
theorem pv_Pw {φ : Prop} (h : φ := by constructor; (repeat exact cl_Pw); first | done | fail) : φ := h
theorem su_Pw {φ ψ : Prop} (k : ψ) (h : Hide ψ → φ := by (intro k; (first | refine sl_pu (PuI.sep (by exact pv_Pw)) rfl ?_ | refine sl_yes rfl rfl ?_ | refine sl_no rfl rfl rfl ?_ | refine sl_off rfl rfl rfl ?_); exact k.out)) : φ := h ⟨k⟩
theorem rq_Pw {φ ψ : Prop} (k : ψ) (h : Hide ψ → φ := by (intro k; (first | refine wq_pu (PuI.sep (by exact pv_Pw)) rfl ?_ | refine wq_yes rfl rfl ?_ | refine wq_no rfl rfl rfl ?_ | refine wq_off rfl rfl rfl ?_); exact k.out)) : φ := h ⟨k⟩
theorem sto_Pw {φ ψ : Prop} (k : ψ) (h : Hide ψ → φ := by (intro k; (first | refine sl_store rfl (by exact pick_) rfl rfl (by kernel_rfl) (by exact set_Pw) ?_ | refine sl_store_whole rfl (by exact pick_) rfl (by exact sz_Pw) (by exact sz_Pw) (by exact one_Pw) ?_); exact k.out)) : φ := h ⟨k⟩
theorem go_Pw {φ ψ : Prop} (k : ψ) (h : Hide ψ → φ := by (intro k; (repeat (first | refine su_Pw ?_ | refine so_ ?_ | refine sto_Pw ?_)); exact k.out)) : φ := h ⟨k⟩
set_option maxRecDepth 100000 in
theorem wRaw {K : List Fa} {b c m cap : Nat} {A X : Option Addr} {bs xs : List Int} (hr : Vw K (fun w => Reads w 1 X m (bytes xs))) (hm : bs.length + m ≤ 70368744177664) :
    Fn Try.prog 46 #[.pointer (some ⟨b, 0, none⟩), .slice X m cap] (wrb b A bs.length c :: u8o A c bs :: K) (Ret (fun _ : Option Addr × Nat => True) (fun _ => .tuple #[]) (fun p => wrb b p.1 (bs ++ xs).length p.2 :: u8o p.1 p.2 (bs ++ xs) :: K)) := by
  refine fn_know (fun w hw => vw_len hr w hw.tl.tl) ?_
  intro hx
  refine fn_enter Try.func46 rfl _ Try.ntmps46 (by simp) [(0, .pointer (some ⟨b, 0, none⟩)), (1, .slice X m cap)] (args_of (by simp)) ?_
  refine go_Pw ?_
  refine sl_app rfl (by exact pick_) rfl (hr.mono (by exact sub_)) (one_bytes _) rfl Try.info5 (by decide) (by decide) rfl (by unfold maxLen; omega) (by omega) ?_
  intro A' c'
  refine go_Pw ?_
  refine se_end0 (A', c') trivial rfl rfl ?_
  dsimp only
  unfold u8o wrb
  rw [List.length_append, hx, bytes_app]
  exact sub_

theorem min_max8 {k : Nat} (hk : k ≤ 8) : (if (8 : Int) < (if (k : Int) < 0 then 0 else (k : Int)) then 8 else (if (k : Int) < 0 then 0 else (k : Int))) = (k : Int) := by
  split <;> split <;> omega
structure Wg where
  j : Nat
  A : Option Addr
  c : Nat
set_option maxRecDepth 100000 in
theorem wUint {K : List Fa} {b c : Nat} {A : Option Addr} {bs : List Int} {n : Int} {k : Nat} (hk : k ≤ 8) (h0 : 0 ≤ n) (h1 : n ≤ 18446744073709551615) (hm : bs.length + 8 ≤ 70368744177664) :
    Fn Try.prog 47 #[.pointer (some ⟨b, 0, none⟩), .int .u64 n, .int .i64 k] (wrb b A bs.length c :: u8o A c bs :: K) (Ret (fun _ : Option Addr × Nat => True) (fun _ => .tuple #[]) (fun p => wrb b p.1 (bs ++ le n k).length p.2 :: u8o p.1 p.2 (bs ++ le n k) :: K)) := by
  refine fn_enter Try.func47 rfl _ Try.ntmps47 (by simp) [(0, .pointer (some ⟨b, 0, none⟩)), (1, .int .u64 n), (2, .int .i64 k)] (args_of (by simp)) ?_
  have hmm := min_max8 hk
  refine go_Pw ?_
  refine sc_for (fun g : Wg => [(0, .pointer (some ⟨b, 0, none⟩)), (1, .int .u64 n), (9, .int .i64 k), (10, .int .i64 g.j)]) (fun g => wrb b g.A (bs ++ le n g.j).length g.c :: u8o g.A g.c (bs ++ le n g.j) :: K) (fun g => g.j ≤ k) (fun g => k - g.j) ⟨0, A, c⟩ (by first | exact has_ | (rw [hmm]; exact has_)) (by simp only [le, List.range_zero, List.map_nil, List.append_nil]; exact Sub.refl) (Nat.zero_le _) ?_
  rintro ⟨j, A1, c1⟩ hj
  dsimp only at hj ⊢
  by_cases hlt : j < k
  · refine go_Pw ?_
    rw [IntKind.wrap_u8, show (8 * (j : Int)).toNat = 8 * j from by omega]
    refine sl_build (size := 1) (e := 5) (cells := bytes [n / 2 ^ (8 * j) % 256]) rfl (fun W => by kernel_rfl) rfl (by decide) rfl ?_
    intro gv
    refine sl_call rfl rfl (by kernel_rfl) rfl (by exact sub_) (wRaw (xs := [n / 2 ^ (8 * j) % 256]) (Vw.of_own (A := some ⟨gv, 0, none⟩) (c := 1) (e := 5) .here) (by simp [le_len]; omega)) ?_
    rintro ⟨A2, c2⟩ -
    refine go_Pw ?_
    refine se_round ⟨j + 1, A2, c2⟩ (by exact has_) ?_ hlt (by dsimp only; omega)
    dsimp only
    rw [le_succ, ← List.append_assoc]
    exact sub_
  · refine go_Pw ?_
    obtain rfl : j = k := by omega
    exact se_end0 (A1, c1) trivial rfl rfl (by exact sub_)
set_option maxRecDepth 100000 in
theorem wBytes {K : List Fa} {b c : Nat} {A : Option Addr} {bs : List Int} (hm : bs.length ≤ 70368744177664) :
    Fn Try.prog 48 #[.pointer (some ⟨b, 0, none⟩)] (wrb b A bs.length c :: u8o A c bs :: K) (Ret (fun _ : Option Addr × Nat => True) (fun p => .slice p.1 bs.length p.2) (fun p => u8o p.1 p.2 bs :: wrb b A bs.length c :: u8o A c bs :: K)) := by
  refine fn_enter Try.func48 rfl _ Try.ntmps48 (by simp) [(0, .pointer (some ⟨b, 0, none⟩))] (args_of (by simp)) ?_
  refine go_Pw ?_
  refine sl_build0 (e := 5) (size := 1) rfl (fun W => by kernel_rfl) rfl ?_
  intro g0
  refine go_Pw ?_
  refine sl_app rfl (by exact pick_) rfl (Vw.of_own (c := c) (e := 5) (by exact at_)) (one_bytes _) rfl Try.info5 (by decide) (by decide) rfl (by unfold maxLen; omega) (by omega) ?_
  intro A' c'
  rw [Nat.zero_add, List.nil_append]
  refine go_Pw ?_
  exact se_ret1 (A', c') trivial rfl rfl (by exact sub_)

/-! The reference's. -/
theorem lt_of_le8 {k : Nat} (hk : k ≤ 8) {j : Nat} (h : j < k) : (j : Int) < 8 := by omega
theorem div_div256 (n : Int) (j : Nat) : n / 2 ^ (8 * j) / 256 = n / 2 ^ (8 * (j + 1)) := by
  rw [Int.ediv_ediv_of_nonneg (Int.le_of_lt (Int.pow_pos (by decide))), show (256 : Int) = 2 ^ 8 from by decide, ← Int.pow_add, Nat.mul_succ]
theorem div_rng {n : Int} (h0 : 0 ≤ n) (h1 : n ≤ 18446744073709551615) (j : Nat) : 0 ≤ n / 2 ^ (8 * j) ∧ n / 2 ^ (8 * j) ≤ 18446744073709551615 :=
  ⟨Int.ediv_nonneg h0 (Int.le_of_lt (Int.pow_pos (by decide))), Int.le_trans (Int.ediv_le_self _ h0) h1⟩
set_option maxRecDepth 100000 in
theorem refUint {K : List Fa} {n : Int} {k : Nat} (hk : k ≤ 8) (h0 : 0 ≤ n) (h1 : n ≤ 18446744073709551615) :
    Fn Try.prog 40 #[.int .u64 n, .int .i64 k] K (Ret (fun _ : Option Addr × Nat => True) (fun p => .slice p.1 k p.2) (fun p => own 5 1 p.1 k p.2 (bytes (le n k)) :: K)) := by
  refine fn_enter Try.func40 rfl _ Try.ntmps40 (by simp) [(0, .int .u64 n), (1, .int .i64 k)] (args_of (by simp)) ?_
  refine go_Pw ?_
  refine sc_bjoin (fun g : Wg => [(5, .slice g.A k g.c)]) (fun g => own 5 1 g.A k g.c (bytes (le n k)) :: K) (fun _ => True) ?_ ?_
  · refine sc_for (fun g : Wg => [(0, .int .u64 (n / 2 ^ (8 * g.j))), (1, .int .i64 k), (5, .slice g.A g.j g.c), (6, .int .i64 g.j)]) (fun g => own 5 1 g.A g.j g.c (bytes (le n g.j)) :: K) (fun g => g.j ≤ k) (fun g => k - g.j) ⟨0, none, 0⟩ (by simp only [Nat.mul_zero, Int.pow_zero, Int.ediv_one]; exact has_) (by simp only [le, List.range_zero, List.map_nil, bytes]; exact Sub.own_nil Sub.refl) (Nat.zero_le _) ?_
    rintro ⟨j, A, c⟩ hj
    dsimp only at hj ⊢
    have hr := div_rng h0 h1 j
    have hd := div_div256 n j
    have hle : (le n (j + 1)) = le n j ++ [n / 2 ^ (8 * j) % 256] := le_succ n j
    generalize n / 2 ^ (8 * j) = q at *
    by_cases hlt : j < k
    · have h8 := lt_of_le8 hk hlt
      refine go_Pw ?_
      refine sl_build (size := 1) (e := 5) (cells := bytes [q % 256]) rfl (fun W => by kernel_rfl) rfl (by decide) rfl ?_
      intro gv
      refine sl_app rfl (by exact pick_) rfl (Vw.of_own (A := some ⟨gv, 0, none⟩) (c := 1) (e := 5) (by exact at_)) (one_bytes _) rfl Try.info5 (by decide) (by decide) rfl (by unfold maxLen; omega) (by omega) ?_
      intro A2 c2
      rw [← bytes_app, ← hle]
      refine go_Pw ?_
      refine se_round ⟨j + 1, A2, c2⟩ ?_ (by dsimp only; exact sub_) hlt (by dsimp only; omega)
      dsimp only
      rw [← hd]
      exact has_
    · obtain rfl : j = k := by omega
      refine go_Pw ?_
      exact se_mid ⟨j, A, c⟩ (by exact has_) (by exact sub_) trivial
  rintro ⟨j, A, c⟩ -
  dsimp only
  refine go_Pw ?_
  exact se_ret1 (A, c) trivial rfl rfl (by exact sub_)
end Go.Proofs.Ytemhhhikopemmaa
