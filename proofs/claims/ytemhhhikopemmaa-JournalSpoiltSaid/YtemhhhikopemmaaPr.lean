/- pack.Reader over facts. -/
import Derived.Test.YtemhhhikopemmaaPw
import Derived.Test.YtemhhhikopemmaaPkM
import Derived.Test.YtemhhhikopemmaaAp
namespace Go.Proofs.Ytemhhhikopemmaa
open Go.RowKit
attribute [local irreducible] Go.Calls Go.Exit.then Go.Exit.inBlock Go.bodyPost Go.Code.wp Go.wpList

abbrev rdb (r : Nat) (A : Option Addr) (n c : Nat) : Fa := blk r 111 [.slice A n c, .bool true]
/-- What is left to read. -/
structure Rd (Z : List Fa) (A : Option Addr) (n c : Nat) (rest : List Int) : Prop where
  vw : Vw Z (fun w => Reads w 1 A n (bytes rest))
  le : n ≤ c
  big : n ≤ 70368744177664
  cb : c ≤ maxLen
  len : rest.length = n
  okb : IsBytes rest
theorem Rd.next {Z : List Fa} {A : Option Addr} {n c : Nat} {rest : List Int} (h : Rd Z A n c rest) {k : Nat} (hk : k ≤ n) : Rd Z (cutA A c k 1) (n - k) (c - k) (rest.drop k) := by
  have hl := h.le
  refine ⟨fun w hw => ?_, by omega, by have := h.big; omega, by have := h.cb; omega, by rw [List.length_drop, h.len], h.okb.drop k⟩
  have h1 := (h.vw w hw).cut (k := k) (cap := c) hk h.le
  have h2 : (bytes rest).drop (k * 1) = bytes (rest.drop k) := by rw [Nat.mul_one]; simp [bytes]
  rw [h2] at h1
  exact h1
structure Rg where
  A : Option Addr
  n : Nat
  c : Nat
abbrev Rg.ok (Z : List Fa) (rest : List Int) (q : Rg) : Prop := Rd Z q.A q.n q.c rest
def stopC (c : Int) : List PanicEntry := [{ v := stopV c, recovered := false }]
theorem rFail {K : List Fa} {r : Nat} {s : Value} {c : Int} (hc : (c == 0) = false) : Fn Try.prog 61 #[.pointer (some ⟨r, 0, none⟩), .int .i64 c] (blk r 111 [s, .bool true] :: K) (Pan (fun _ : Unit => True) (fun _ => stopC c) (fun _ => blk r 111 [s, .bool true] :: K)) := by
  unfold Fn
  intro w hw
  have hB := blk_at hw .here
  refine (Fail_stop (by simpa using hB) c hc).mono ?_
  rintro e w' ⟨rfl, rfl⟩
  exact ⟨(), trivial, rfl, hw⟩
theorem bytes_take (xs : List Int) (k : Nat) : (bytes xs).take (k * 1) = bytes (xs.take k) := by rw [Nat.mul_one]; simp [bytes]

theorem nth_Pr {φ : Prop} (h : φ := by (first | rfl | rfl)) : φ := h
theorem mid_Pr {φ : Prop} (h : φ := by (first | exact Mid.all | exact Mid.all | exact Mid.head)) : φ := h
theorem sz_Pr {φ : Prop} (h : φ := by (first | rfl | (first | (simp only [bytes_length, Id.len]; rfl) | (simp only [bytes_length, Id.len]); first | done | fail))) : φ := h
theorem one_Pr {φ : Prop} (h : φ := by (first | assumption | exact one_bytes _ | (simp only [List.mem_cons, List.not_mem_nil, or_false, forall_eq_or_imp, forall_eq]; decide) | exact one_bytes _)) : φ := h
theorem set_Pr {φ : Prop} (h : φ := by (first | (fail) | ((repeat (first | exact SetAt.here | apply SetAt.there)); first | done | fail))) : φ := h
theorem cl_Pr {φ : Prop} (h : φ := by first | rfl | exact .t | exact .f | exact .t (by omega) | exact .f (by omega) | exact .u | exact .i (by (first | exact .t (by omega) | exact .f (by omega) | exact .u | exact .i (by omega) | exact .v (by omega) | exact .b (by omega) | exact .w | rfl | omega)) | exact .v (by omega) | exact .b (by omega) | exact .q (by omega) | exact .w | exact .b (by exact at_) rfl (by exact nth_Pr) | exact .w (by exact at_) rfl rfl (by exact sz_Pr) | exact .s (by exact at_) (by exact mid_Pr) rfl rfl (by exact sz_Pr) | exact .z rfl rfl ⟨by kernel_rfl⟩ | exact .b rfl rfl ⟨by kernel_rfl⟩ | exact .a rfl rfl ⟨by kernel_rfl⟩ | exact .o rfl | exact .s | exact .n | exact .p rfl | exact .q rfl | exact .c rfl | exact .d rfl | exact .n rfl rfl (by omega) | exact .a rfl rfl (by omega) | exact .p rfl rfl (by omega) (by omega) | exact .y rfl rfl (by omega) (by omega) | exact .o (by exact at_) (by omega) rfl (by exact nth_Pr) | exact .m (by exact at_) (by omega) (by exact mid_Pr) rfl rfl (by exact sz_Pr) | exact .mlen (by exact at_) rfl | exact .t (by exact at_) rfl rfl (by first | exact True.intro | rfl) (by assumption) | exact .f (by exact at_) rfl rfl (by first | exact True.intro | rfl) (by assumption) rfl | exact .t1 (by exact at_) rfl rfl (by first | exact True.intro | rfl) (by assumption) | exact .f1 (by exact at_) rfl rfl (by first | exact True.intro | rfl) (by assumption) rfl | exact .r rfl rfl (by omega) (by omega) (by exact nth_Pr) rfl | exact .s rfl (by omega) (by assumption) | exact at_ | assumption | exact .r rfl rfl | exact .h rfl rfl rfl (by omega) | exact .l rfl rfl rfl (by omega) (by omega) | exact .g rfl rfl rfl rfl (by omega) (by omega) | exact .h rfl rfl (toN_ (by omega)) (by omega) | exact .l rfl rfl (toN_ (by omega)) (by omega) (by omega) | exact .g rfl rfl (toN_ (by omega)) (toN_ (by omega)) (by omega) (by omega) | exact .o (by decide) | exact .f (by decide) | exact .n (by omega) (by first | decide | (show _ ≤ ((64 : Nat) : Int); omega)) | (constructor; (repeat (first | exact .t (by omega) | exact .f (by omega) | exact .u | exact .i (by omega) | exact .v (by omega) | exact .b (by omega) | exact .w | rfl | omega)); first | done | fail) | omega | (show _ ≤ ((64 : Nat) : Int); omega)) : φ := h
theorem pv_Pr {φ : Prop} (h : φ := by constructor; (repeat exact cl_Pr); first | done | fail) : φ := h
theorem su_Pr {φ ψ : Prop} (k : ψ) (h : Hide ψ → φ := by (intro k; (first | refine sl_pu (PuI.sep (by exact pv_Pr)) rfl ?_ | refine sl_yes rfl rfl ?_ | refine sl_no rfl rfl rfl ?_ | refine sl_off rfl rfl rfl ?_); exact k.out)) : φ := h ⟨k⟩
theorem rq_Pr {φ ψ : Prop} (k : ψ) (h : Hide ψ → φ := by (intro k; (first | refine wq_pu (PuI.sep (by exact pv_Pr)) rfl ?_ | refine wq_yes rfl rfl ?_ | refine wq_no rfl rfl rfl ?_ | refine wq_off rfl rfl rfl ?_); exact k.out)) : φ := h ⟨k⟩
theorem sto_Pr {φ ψ : Prop} (k : ψ) (h : Hide ψ → φ := by (intro k; (first | refine sl_store rfl (by exact pick_) rfl rfl (by kernel_rfl) (by exact set_Pr) ?_ | refine sl_store_whole rfl (by exact pick_) rfl (by exact sz_Pr) (by exact sz_Pr) (by exact one_Pr) ?_); exact k.out)) : φ := h ⟨k⟩
theorem go_Pr {φ ψ : Prop} (k : ψ) (h : Hide ψ → φ := by (intro k; (repeat (first | refine su_Pr ?_ | refine so_ ?_ | refine sto_Pr ?_)); exact k.out)) : φ := h ⟨k⟩
set_option maxRecDepth 100000 in
theorem rRaw {K Z : List Fa} {r n c k : Nat} {A : Option Addr} {rest : List Int} (hz : Sub K Z) (h : Rd Z A n c rest) (hk : k ≤ n) :
    Fn Try.prog 54 #[.pointer (some ⟨r, 0, none⟩), .int .i64 k] (rdb r A n c :: K) (Ret (fun p : (Option Addr × Nat) × Rg => p.2.ok Z (rest.drop k)) (fun p => .slice p.1.1 k p.1.2) (fun p => own 5 1 p.1.1 k p.1.2 (bytes (rest.take k)) :: rdb r p.2.A p.2.n p.2.c :: K)) := by
  have hle := h.le
  have hbig := h.big
  refine fn_enter Try.func54 rfl _ Try.ntmps54 (by simp) [(0, .pointer (some ⟨r, 0, none⟩)), (1, .int .i64 k)] (args_of (by simp)) ?_
  refine go_Pr ?_
  refine sl_build0 (e := 5) (size := 1) rfl (fun W => by kernel_rfl) rfl ?_
  intro g0
  refine go_Pr ?_
  refine sl_app rfl (by exact pick_) rfl (Vw.imp (h.vw.mono (L' := _ :: _ :: K) (Sub.skip (Sub.skip hz))) (fun w h => h.take hk)) (by rw [bytes_take]; exact one_bytes _) rfl Try.info5 (by decide) (by decide) rfl (by unfold maxLen; omega) (by omega) ?_
  intro A' c'
  rw [Nat.zero_add, List.nil_append, bytes_take]
  refine go_Pr ?_
  exact se_ret1 ((A', c'), ⟨cutA A c k 1, n - k, c - k⟩) (h.next hk) rfl rfl (by exact sub_)
set_option maxRecDepth 100000 in
theorem rRaw_die {K : List Fa} {r n c : Nat} {k : Int} {A : Option Addr} (hk : k < 0 ∨ (n : Int) < k) :
    Fn Try.prog 54 #[.pointer (some ⟨r, 0, none⟩), .int .i64 k] (rdb r A n c :: K) (Pan (fun _ : Unit => True) (fun _ => stopC 3) (fun _ => rdb r A n c :: K)) := by
  refine fn_enter Try.func54 rfl _ Try.ntmps54 (by simp) [(0, .pointer (some ⟨r, 0, none⟩)), (1, .int .i64 k)] (args_of (by simp)) ?_
  by_cases h0 : k < 0
  · refine go_Pr ?_
    refine sl_die rfl rfl (by kernel_rfl) Sub.refl (rFail rfl) ?_
    rintro _ -
    refine go_Pr ?_
    exact se_panic () trivial (by exact sub_)
  · have h1 : (n : Int) < k := by omega
    refine go_Pr ?_
    refine sl_die rfl rfl (by kernel_rfl) Sub.refl (rFail rfl) ?_
    rintro _ -
    refine go_Pr ?_
    exact se_panic () trivial (by exact sub_)

set_option maxRecDepth 100000 in
theorem rUint {K Z : List Fa} {r n c k : Nat} {A : Option Addr} {rest : List Int} (hz : Sub K Z) (h : Rd Z A n c rest) (hk8 : k ≤ 8) (hk : k ≤ n) :
    Fn Try.prog 52 #[.pointer (some ⟨r, 0, none⟩), .int .i64 k] (rdb r A n c :: K) (Ret (fun p : Rg => p.ok Z (rest.drop k)) (fun _ => .int .u64 (leV (rest.take k))) (fun p => rdb r p.A p.n p.c :: K)) := by
  have htl : (rest.take k).length = k := by rw [List.length_take, h.len]; omega
  have htb : IsBytes (rest.take k) := h.okb.take k
  have hmm := min_max8 hk8
  refine fn_enter Try.func52 rfl _ Try.ntmps52 (by simp) [(0, .pointer (some ⟨r, 0, none⟩)), (1, .int .i64 k)] (args_of (by simp)) ?_
  repeat (first | rw [hmm] | (first | refine su_Pr ?_ | refine so_ ?_))
  refine sl_call rfl rfl (by kernel_rfl) rfl Sub.refl (rRaw hz h hk) ?_
  rintro ⟨⟨P, cp⟩, q⟩ hq
  dsimp only at hq ⊢
  generalize rest.take k = xs at *
  refine sl_know (fun w hw => (own_len (e := 5) (size := 1) (A := P) hw .here).2) ?_
  rintro ⟨hc1, hc2⟩
  refine go_Pr ?_
  refine sc_bjoin (fun _ : Unit => [(5, .int .u64 (leV xs))]) (fun _ => own 5 1 P k cp (bytes xs) :: rdb r q.A q.n q.c :: K) (fun _ => True) ?_ ?_
  · refine sc_for (fun j : Nat => [(5, .int .u64 (leV (xs.take j))), (12, .slice P k cp), (13, .int .i64 k), (14, .int .i64 j)]) (fun _ => own 5 1 P k cp (bytes xs) :: rdb r q.A q.n q.c :: K) (fun j => j ≤ k) (fun j => k - j) 0 (by exact has_) (by exact sub_) (Nat.zero_le _) ?_
    intro j hj
    by_cases hlt : j < k
    · have hxl : j < xs.length := by omega
      have hst := or_step htb j hxl (by omega)
      have hx0 := htb _ (List.getElem_mem hxl)
      refine sc_form (A := P) (by exact at_) (by omega) ?_
      rintro g rfl
      refine go_Pr ?_
      refine sl_pu (pu_ldr (v := .int .u8 xs[j]) (Vw.of_own (by exact at_)) (by omega) rfl rfl (by rw [nth_eq]; simp [bytes])) rfl ?_
      generalize xs[j] = x at *
      refine go_Pr ?_
      rw [show (8 * (j : Int)).toNat = 8 * j from by omega, hst]
      refine go_Pr ?_
      exact se_round (j + 1) (by exact has_) (by exact sub_) hlt (by omega)
    · obtain rfl : j = k := by omega
      have e : xs.take j = xs := by rw [← htl, List.take_length]
      rw [e]
      refine go_Pr ?_
      exact se_mid () (by exact has_) (by exact sub_) trivial
  rintro _ -
  refine go_Pr ?_
  exact se_ret1 q hq rfl rfl (by exact sub_)
set_option maxRecDepth 100000 in
theorem rUint_die {K : List Fa} {r n c k : Nat} {A : Option Addr} (hk8 : k ≤ 8) (hk : n < k) :
    Fn Try.prog 52 #[.pointer (some ⟨r, 0, none⟩), .int .i64 k] (rdb r A n c :: K) (Pan (fun _ : Unit => True) (fun _ => stopC 3) (fun _ => rdb r A n c :: K)) := by
  have hmm := min_max8 hk8
  refine fn_enter Try.func52 rfl _ Try.ntmps52 (by simp) [(0, .pointer (some ⟨r, 0, none⟩)), (1, .int .i64 k)] (args_of (by simp)) ?_
  repeat (first | rw [hmm] | (first | refine su_Pr ?_ | refine so_ ?_))
  refine sl_die rfl rfl (by kernel_rfl) Sub.refl (rRaw_die (.inr (by omega))) ?_
  rintro _ -
  refine go_Pr ?_
  exact se_panic () trivial (by exact sub_)

set_option maxRecDepth 100000 in
theorem rCount {K Z : List Fa} {r n c k : Nat} {A : Option Addr} {rest : List Int} {most : Int} (hz : Sub K Z) (h : Rd Z A n c rest) (hk8 : k ≤ 8) (hk : k ≤ n) (hm : leV (rest.take k) ≤ most) (hmb : most ≤ 9223372036854775807) :
    Fn Try.prog 53 #[.pointer (some ⟨r, 0, none⟩), .int .i64 k, .int .u64 most] (rdb r A n c :: K) (Ret (fun p : Rg => p.ok Z (rest.drop k)) (fun _ => .int .i64 (leV (rest.take k))) (fun p => rdb r p.A p.n p.c :: K)) := by
  have h0 := (leV_lt (h.okb.take k)).1
  refine fn_enter Try.func53 rfl _ Try.ntmps53 (by simp) [(0, .pointer (some ⟨r, 0, none⟩)), (1, .int .i64 k), (2, .int .u64 most)] (args_of (by simp)) ?_
  refine go_Pr ?_
  refine sl_call rfl rfl (by kernel_rfl) rfl Sub.refl (rUint hz h hk8 hk) ?_
  intro q hq
  generalize leV (rest.take k) = v at *
  refine go_Pr ?_
  exact se_ret1 q hq rfl rfl (by exact sub_)
set_option maxRecDepth 100000 in
theorem rCount_die {K : List Fa} {r n c k : Nat} {A : Option Addr} {most : Int} (hk8 : k ≤ 8) (hk : n < k) :
    Fn Try.prog 53 #[.pointer (some ⟨r, 0, none⟩), .int .i64 k, .int .u64 most] (rdb r A n c :: K) (Pan (fun _ : Unit => True) (fun _ => stopC 3) (fun _ => rdb r A n c :: K)) := by
  refine fn_enter Try.func53 rfl _ Try.ntmps53 (by simp) [(0, .pointer (some ⟨r, 0, none⟩)), (1, .int .i64 k), (2, .int .u64 most)] (args_of (by simp)) ?_
  refine go_Pr ?_
  refine sl_die rfl rfl (by kernel_rfl) Sub.refl (rUint_die hk8 hk) ?_
  rintro _ -
  refine go_Pr ?_
  exact se_panic () trivial (by exact sub_)
set_option maxRecDepth 100000 in
theorem rCount_range {K Z : List Fa} {r n c k : Nat} {A : Option Addr} {rest : List Int} {most : Int} (hz : Sub K Z) (h : Rd Z A n c rest) (hk8 : k ≤ 8) (hk : k ≤ n) (hm : most < leV (rest.take k)) :
    Fn Try.prog 53 #[.pointer (some ⟨r, 0, none⟩), .int .i64 k, .int .u64 most] (rdb r A n c :: K) (Pan (fun _ : Rg => True) (fun _ => stopC 6) (fun p => rdb r p.A p.n p.c :: K)) := by
  refine fn_enter Try.func53 rfl _ Try.ntmps53 (by simp) [(0, .pointer (some ⟨r, 0, none⟩)), (1, .int .i64 k), (2, .int .u64 most)] (args_of (by simp)) ?_
  refine go_Pr ?_
  refine sl_call rfl rfl (by kernel_rfl) rfl Sub.refl (rUint hz h hk8 hk) ?_
  intro q hq
  generalize leV (rest.take k) = v at *
  refine go_Pr ?_
  refine sl_die rfl rfl (by kernel_rfl) Sub.refl (rFail rfl) ?_
  rintro _ -
  refine go_Pr ?_
  exact se_panic q trivial (by exact sub_)

theorem max_0 {m : Nat} : (if (m : Int) < 0 then 0 else (m : Int)) = (m : Int) := by
  split <;> omega
theorem id16 (id : Id) (zs : List Value) (h : zs.length = 16) : zs.take 0 ++ bytes id.l ++ zs.drop (0 + (bytes id.l).length) = bytes id.l := by
  rw [List.take_zero, List.nil_append, List.drop_of_length_le (by rw [bytes_length, id.len]; omega), List.append_nil]
end Go.Proofs.Ytemhhhikopemmaa
