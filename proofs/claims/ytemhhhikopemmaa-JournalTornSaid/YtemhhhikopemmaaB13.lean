/- Several texts of one claim, one behind the other (Pr, Pd, Str, App). -/
import Derived.Test.YtemhhhikopemmaaB11
import Derived.Test.YtemhhhikopemmaaB03
import Derived.Test.YtemhhhikopemmaaB10
import Derived.Test.YtemhhhikopemmaaB02
import Derived.Test.YtemhhhikopemmaaB09
import Derived.Lib.Bytes
import Derived.Deep.AppendSrc
/- pack.Reader over facts. -/
namespace Go.Proofs.Ytemhhhikopemmaa
open Go.RowKit
attribute [local irreducible] Go.Calls Go.Exit.then Go.Exit.inBlock Go.bodyPost Go.Code.wp Go.wpList

abbrev rdb (r : Nat) (A : Option Addr) (n c : Nat) : Fa := blk r 111 [.slice A n c, .bool true]
/-- What is left to read. -/
structure Rd (Z : List Fa) (A : Option Addr) (n c : Nat) (rest : List Int) : Prop where
  vw : Vw Z (fun w => Reads w 1 A n (bytes rest))
  le : n ≤ c
  big : n ≤ 70368744177664
  cb : c ≤ maxLen
  len : rest.length = n
  okb : IsBytes rest
theorem Rd.next {Z : List Fa} {A : Option Addr} {n c : Nat} {rest : List Int} (h : Rd Z A n c rest) {k : Nat} (hk : k ≤ n) : Rd Z (cutA A c k 1) (n - k) (c - k) (rest.drop k) := by
  have hl := h.le
  refine ⟨fun w hw => ?_, by omega, by have := h.big; omega, by have := h.cb; omega, by rw [List.length_drop, h.len], h.okb.drop k⟩
  have h1 := (h.vw w hw).cut (k := k) (cap := c) hk h.le
  have h2 : (bytes rest).drop (k * 1) = bytes (rest.drop k) := by rw [Nat.mul_one]; simp [bytes]
  rw [h2] at h1
  exact h1
structure Rg where
  A : Option Addr
  n : Nat
  c : Nat
abbrev Rg.ok (Z : List Fa) (rest : List Int) (q : Rg) : Prop := Rd Z q.A q.n q.c rest
def stopC (c : Int) : List PanicEntry := [{ v := stopV c, recovered := false }]
theorem rFail {K : List Fa} {r : Nat} {s : Value} {c : Int} (hc : (c == 0) = false) : Fn Try.prog 61 #[.pointer (some ⟨r, 0, none⟩), .int .i64 c] (blk r 111 [s, .bool true] :: K) (Pan (fun _ : Unit => True) (fun _ => stopC c) (fun _ => blk r 111 [s, .bool true] :: K)) := by
  unfold Fn
  intro w hw
  have hB := blk_at hw .here
  refine (Fail_stop (by simpa using hB) c hc).mono ?_
  rintro e w' ⟨rfl, rfl⟩
  exact ⟨(), trivial, rfl, hw⟩
theorem bytes_take (xs : List Int) (k : Nat) : (bytes xs).take (k * 1) = bytes (xs.take k) := by rw [Nat.mul_one]; simp [bytes]

theorem nth_Pr {φ : Prop} (h : φ := by (first | rfl | rfl)) : φ := h
theorem mid_Pr {φ : Prop} (h : φ := by (first | exact Mid.all | exact Mid.all | exact Mid.head)) : φ := h
theorem sz_Pr {φ : Prop} (h : φ := by (first | rfl | (first | (simp only [bytes_length, Id.len]; rfl) | (simp only [bytes_length, Id.len]); first | done | fail))) : φ := h
theorem one_Pr {φ : Prop} (h : φ := by (first | assumption | exact one_bytes _ | (simp only [List.mem_cons, List.not_mem_nil, or_false, forall_eq_or_imp, forall_eq]; decide) | exact one_bytes _)) : φ := h
theorem set_Pr {φ : Prop} (h : φ := by (first | (fail) | ((repeat (first | exact SetAt.here | apply SetAt.there)); first | done | fail))) : φ := h
theorem cl_Pr {φ : Prop} (h : φ := by first | rfl | exact .t | exact .f | exact .t (by omega) | exact .f (by omega) | exact .u | exact .i (by (first | exact .t (by omega) | exact .f (by omega) | exact .u | exact .i (by omega) | exact .v (by omega) | exact .b (by omega) | exact .w | rfl | omega)) | exact .v (by omega) | exact .b (by omega) | exact .q (by omega) | exact .w | exact .b (by exact at_) rfl (by exact nth_Pr) | exact .w (by exact at_) rfl rfl (by exact sz_Pr) | exact .s (by exact at_) (by exact mid_Pr) rfl rfl (by exact sz_Pr) | exact .z rfl rfl ⟨by kernel_rfl⟩ | exact .b rfl rfl ⟨by kernel_rfl⟩ | exact .a rfl rfl ⟨by kernel_rfl⟩ | exact .o rfl | exact .s | exact .n | exact .p rfl | exact .q rfl | exact .c rfl | exact .d rfl | exact .n rfl rfl (by omega) | exact .a rfl rfl (by omega) | exact .p rfl rfl (by omega) (by omega) | exact .y rfl rfl (by omega) (by omega) | exact .o (by exact at_) (by omega) rfl (by exact nth_Pr) | exact .m (by exact at_) (by omega) (by exact mid_Pr) rfl rfl (by exact sz_Pr) | exact .mlen (by exact at_) rfl | exact .t (by exact at_) rfl rfl (by first | exact True.intro | rfl) (by assumption) | exact .f (by exact at_) rfl rfl (by first | exact True.intro | rfl) (by assumption) rfl | exact .t1 (by exact at_) rfl rfl (by first | exact True.intro | rfl) (by assumption) | exact .f1 (by exact at_) rfl rfl (by first | exact True.intro | rfl) (by assumption) rfl | exact .r rfl rfl (by omega) (by omega) (by exact nth_Pr) rfl | exact .s rfl (by omega) (by assumption) | exact at_ | assumption | exact .r rfl rfl | exact .h rfl rfl rfl (by omega) | exact .l rfl rfl rfl (by omega) (by omega) | exact .g rfl rfl rfl rfl (by omega) (by omega) | exact .h rfl rfl (toN_ (by omega)) (by omega) | exact .l rfl rfl (toN_ (by omega)) (by omega) (by omega) | exact .g rfl rfl (toN_ (by omega)) (toN_ (by omega)) (by omega) (by omega) | exact .o (by decide) | exact .f (by decide) | exact .n (by omega) (by first | decide | (show _ ≤ ((64 : Nat) : Int); omega)) | (constructor; (repeat (first | exact .t (by omega) | exact .f (by omega) | exact .u | exact .i (by omega) | exact .v (by omega) | exact .b (by omega) | exact .w | rfl | omega)); first | done | fail) | omega | (show _ ≤ ((64 : Nat) : Int); omega)) : φ := h
theorem pv_Pr {φ : Prop} (h : φ := by constructor; (repeat exact cl_Pr); first | done | fail) : φ := h
theorem su_Pr {φ ψ : Prop} (k : ψ) (h : Hide ψ → φ := by (intro k; (first | refine sl_pu (PuI.sep (by exact pv_Pr)) rfl ?_ | refine sl_yes rfl rfl ?_ | refine sl_no rfl rfl rfl ?_ | refine sl_off rfl rfl rfl ?_ | (fail)); exact k.out)) : φ := h ⟨k⟩
theorem rq_Pr {φ ψ : Prop} (k : ψ) (h : Hide ψ → φ := by (intro k; (first | refine wq_pu (PuI.sep (by exact pv_Pr)) rfl ?_ | refine wq_yes rfl rfl ?_ | refine wq_no rfl rfl rfl ?_ | refine wq_off rfl rfl rfl ?_ | (fail)); exact k.out)) : φ := h ⟨k⟩
theorem sto_Pr {φ ψ : Prop} (k : ψ) (h : Hide ψ → φ := by (intro k; (first | refine sl_store rfl (by exact pick_) rfl rfl (by kernel_rfl) (by exact set_Pr) ?_ | refine sl_store_whole rfl (by exact pick_) rfl (by exact sz_Pr) (by exact sz_Pr) (by exact one_Pr) ?_); exact k.out)) : φ := h ⟨k⟩
theorem go_Pr {φ ψ : Prop} (k : ψ) (h : Hide ψ → φ := by (intro k; (repeat (first | refine su_Pr ?_ | refine so_ ?_ | refine sto_Pr ?_)); exact k.out)) : φ := h ⟨k⟩
set_option maxRecDepth 100000 in
theorem rRaw {K Z : List Fa} {r n c k : Nat} {A : Option Addr} {rest : List Int} (hz : Sub K Z) (h : Rd Z A n c rest) (hk : k ≤ n) :
    Fn Try.prog 54 #[.pointer (some ⟨r, 0, none⟩), .int .i64 k] (rdb r A n c :: K) (Ret (fun p : (Option Addr × Nat) × Rg => p.2.ok Z (rest.drop k)) (fun p => .slice p.1.1 k p.1.2) (fun p => own 5 1 p.1.1 k p.1.2 (bytes (rest.take k)) :: rdb r p.2.A p.2.n p.2.c :: K)) := by
  have hle := h.le
  have hbig := h.big
  refine fn_enter Try.func54 rfl _ Try.ntmps54 (by simp) [(0, .pointer (some ⟨r, 0, none⟩)), (1, .int .i64 k)] (args_of (by simp)) ?_
  refine go_Pr ?_
  refine sl_build0 (e := 5) (size := 1) rfl (fun W => by kernel_rfl) rfl ?_
  intro g0
  refine go_Pr ?_
  refine sl_app rfl (by exact pick_) rfl (Vw.imp (h.vw.mono (L' := _ :: _ :: K) (Sub.skip (Sub.skip hz))) (fun w h => h.take hk)) (by rw [bytes_take]; exact one_bytes _) rfl Try.info5 (by decide) (by decide) rfl (by unfold maxLen; omega) (by omega) ?_
  intro A' c'
  rw [Nat.zero_add, List.nil_append, bytes_take]
  refine go_Pr ?_
  exact se_ret1 ((A', c'), ⟨cutA A c k 1, n - k, c - k⟩) (h.next hk) rfl rfl (by exact sub_)
set_option maxRecDepth 100000 in
theorem rRaw_die {K : List Fa} {r n c : Nat} {k : Int} {A : Option Addr} (hk : k < 0 ∨ (n : Int) < k) :
    Fn Try.prog 54 #[.pointer (some ⟨r, 0, none⟩), .int .i64 k] (rdb r A n c :: K) (Pan (fun _ : Unit => True) (fun _ => stopC 3) (fun _ => rdb r A n c :: K)) := by
  refine fn_enter Try.func54 rfl _ Try.ntmps54 (by simp) [(0, .pointer (some ⟨r, 0, none⟩)), (1, .int .i64 k)] (args_of (by simp)) ?_
  by_cases h0 : k < 0
  · refine go_Pr ?_
    refine sl_die rfl rfl (by kernel_rfl) Sub.refl (rFail rfl) ?_
    rintro _ -
    refine go_Pr ?_
    exact se_panic () trivial (by exact sub_)
  · have h1 : (n : Int) < k := by omega
    refine go_Pr ?_
    refine sl_die rfl rfl (by kernel_rfl) Sub.refl (rFail rfl) ?_
    rintro _ -
    refine go_Pr ?_
    exact se_panic () trivial (by exact sub_)

set_option maxRecDepth 100000 in
theorem rUint {K Z : List Fa} {r n c k : Nat} {A : Option Addr} {rest : List Int} (hz : Sub K Z) (h : Rd Z A n c rest) (hk8 : k ≤ 8) (hk : k ≤ n) :
    Fn Try.prog 52 #[.pointer (some ⟨r, 0, none⟩), .int .i64 k] (rdb r A n c :: K) (Ret (fun p : Rg => p.ok Z (rest.drop k)) (fun _ => .int .u64 (leV (rest.take k))) (fun p => rdb r p.A p.n p.c :: K)) := by
  have htl : (rest.take k).length = k := by rw [List.length_take, h.len]; omega
  have htb : IsBytes (rest.take k) := h.okb.take k
  have hmm := min_max8 hk8
  refine fn_enter Try.func52 rfl _ Try.ntmps52 (by simp) [(0, .pointer (some ⟨r, 0, none⟩)), (1, .int .i64 k)] (args_of (by simp)) ?_
  repeat (first | rw [hmm] | (first | refine su_Pr ?_ | refine so_ ?_))
  refine sl_call rfl rfl (by kernel_rfl) rfl Sub.refl (rRaw hz h hk) ?_
  rintro ⟨⟨P, cp⟩, q⟩ hq
  dsimp only at hq ⊢
  generalize rest.take k = xs at *
  refine sl_know (fun w hw => (own_len (e := 5) (size := 1) (A := P) hw .here).2) ?_
  rintro ⟨hc1, hc2⟩
  refine go_Pr ?_
  refine sc_bjoin (fun _ : Unit => [(5, .int .u64 (leV xs))]) (fun _ => own 5 1 P k cp (bytes xs) :: rdb r q.A q.n q.c :: K) (fun _ => True) ?_ ?_
  · refine sc_for (fun j : Nat => [(5, .int .u64 (leV (xs.take j))), (12, .slice P k cp), (13, .int .i64 k), (14, .int .i64 j)]) (fun _ => own 5 1 P k cp (bytes xs) :: rdb r q.A q.n q.c :: K) (fun j => j ≤ k) (fun j => k - j) 0 (by exact has_) (by exact sub_) (Nat.zero_le _) ?_
    intro j hj
    by_cases hlt : j < k
    · have hxl : j < xs.length := by omega
      have hst := or_step htb j hxl (by omega)
      have hx0 := htb _ (List.getElem_mem hxl)
      refine sc_form (A := P) (by exact at_) (by omega) ?_
      rintro g rfl
      refine go_Pr ?_
      refine sl_pu (pu_ldr (v := .int .u8 xs[j]) (Vw.of_own (by exact at_)) (by omega) rfl rfl (by rw [nth_eq]; simp [bytes])) rfl ?_
      generalize xs[j] = x at *
      refine go_Pr ?_
      rw [show (8 * (j : Int)).toNat = 8 * j from by omega, hst]
      refine go_Pr ?_
      exact se_round (j + 1) (by exact has_) (by exact sub_) hlt (by omega)
    · obtain rfl : j = k := by omega
      have e : xs.take j = xs := by rw [← htl, List.take_length]
      rw [e]
      refine go_Pr ?_
      exact se_mid () (by exact has_) (by exact sub_) trivial
  rintro _ -
  refine go_Pr ?_
  exact se_ret1 q hq rfl rfl (by exact sub_)
set_option maxRecDepth 100000 in
theorem rUint_die {K : List Fa} {r n c k : Nat} {A : Option Addr} (hk8 : k ≤ 8) (hk : n < k) :
    Fn Try.prog 52 #[.pointer (some ⟨r, 0, none⟩), .int .i64 k] (rdb r A n c :: K) (Pan (fun _ : Unit => True) (fun _ => stopC 3) (fun _ => rdb r A n c :: K)) := by
  have hmm := min_max8 hk8
  refine fn_enter Try.func52 rfl _ Try.ntmps52 (by simp) [(0, .pointer (some ⟨r, 0, none⟩)), (1, .int .i64 k)] (args_of (by simp)) ?_
  repeat (first | rw [hmm] | (first | refine su_Pr ?_ | refine so_ ?_))
  refine sl_die rfl rfl (by kernel_rfl) Sub.refl (rRaw_die (.inr (by omega))) ?_
  rintro _ -
  refine go_Pr ?_
  exact se_panic () trivial (by exact sub_)

set_option maxRecDepth 100000 in
theorem rCount {K Z : List Fa} {r n c k : Nat} {A : Option Addr} {rest : List Int} {most : Int} (hz : Sub K Z) (h : Rd Z A n c rest) (hk8 : k ≤ 8) (hk : k ≤ n) (hm : leV (rest.take k) ≤ most) (hmb : most ≤ 9223372036854775807) :
    Fn Try.prog 53 #[.pointer (some ⟨r, 0, none⟩), .int .i64 k, .int .u64 most] (rdb r A n c :: K) (Ret (fun p : Rg => p.ok Z (rest.drop k)) (fun _ => .int .i64 (leV (rest.take k))) (fun p => rdb r p.A p.n p.c :: K)) := by
  have h0 := (leV_lt (h.okb.take k)).1
  refine fn_enter Try.func53 rfl _ Try.ntmps53 (by simp) [(0, .pointer (some ⟨r, 0, none⟩)), (1, .int .i64 k), (2, .int .u64 most)] (args_of (by simp)) ?_
  refine go_Pr ?_
  refine sl_call rfl rfl (by kernel_rfl) rfl Sub.refl (rUint hz h hk8 hk) ?_
  intro q hq
  generalize leV (rest.take k) = v at *
  refine go_Pr ?_
  exact se_ret1 q hq rfl rfl (by exact sub_)
set_option maxRecDepth 100000 in
theorem rCount_die {K : List Fa} {r n c k : Nat} {A : Option Addr} {most : Int} (hk8 : k ≤ 8) (hk : n < k) :
    Fn Try.prog 53 #[.pointer (some ⟨r, 0, none⟩), .int .i64 k, .int .u64 most] (rdb r A n c :: K) (Pan (fun _ : Unit => True) (fun _ => stopC 3) (fun _ => rdb r A n c :: K)) := by
  refine fn_enter Try.func53 rfl _ Try.ntmps53 (by simp) [(0, .pointer (some ⟨r, 0, none⟩)), (1, .int .i64 k), (2, .int .u64 most)] (args_of (by simp)) ?_
  refine go_Pr ?_
  refine sl_die rfl rfl (by kernel_rfl) Sub.refl (rUint_die hk8 hk) ?_
  rintro _ -
  refine go_Pr ?_
  exact se_panic () trivial (by exact sub_)
set_option maxRecDepth 100000 in
theorem rCount_range {K Z : List Fa} {r n c k : Nat} {A : Option Addr} {rest : List Int} {most : Int} (hz : Sub K Z) (h : Rd Z A n c rest) (hk8 : k ≤ 8) (hk : k ≤ n) (hm : most < leV (rest.take k)) :
    Fn Try.prog 53 #[.pointer (some ⟨r, 0, none⟩), .int .i64 k, .int .u64 most] (rdb r A n c :: K) (Pan (fun _ : Rg => True) (fun _ => stopC 6) (fun p => rdb r p.A p.n p.c :: K)) := by
  refine fn_enter Try.func53 rfl _ Try.ntmps53 (by simp) [(0, .pointer (some ⟨r, 0, none⟩)), (1, .int .i64 k), (2, .int .u64 most)] (args_of (by simp)) ?_
  refine go_Pr ?_
  refine sl_call rfl rfl (by kernel_rfl) rfl Sub.refl (rUint hz h hk8 hk) ?_
  intro q hq
  generalize leV (rest.take k) = v at *
  refine go_Pr ?_
  refine sl_die rfl rfl (by kernel_rfl) Sub.refl (rFail rfl) ?_
  rintro _ -
  refine go_Pr ?_
  exact se_panic q trivial (by exact sub_)

theorem max_0 {m : Nat} : (if (m : Int) < 0 then 0 else (m : Int)) = (m : Int) := by
  split <;> omega
theorem id16 (id : Id) (zs : List Value) (h : zs.length = 16) : zs.take 0 ++ bytes id.l ++ zs.drop (0 + (bytes id.l).length) = bytes id.l := by
  rw [List.take_zero, List.nil_append, List.drop_of_length_le (by rw [bytes_length, id.len]; omega), List.append_nil]
end Go.Proofs.Ytemhhhikopemmaa
/- pack.Read over facts. -/
namespace Go.Proofs.Ytemhhhikopemmaa
open Go.RowKit
/-- All but T as it was at w1. -/
def since (w1 : World) (T : Nat → Prop) : Fa := ⟨fun w => Fr T w1 w, fun k => k < w1.heap.size ∧ ¬ T k, fun h e => by have := h.size; omega, fun h hF hn => h.trans hF (fun k hk e => Classical.byContradiction fun ht => hn k ⟨hk, ht⟩ e)⟩
attribute [local semireducible] Sep in
theorem Sep.cons {w : World} {f : Fa} {L : List Fa} (h1 : f.P w) (h2 : ∀ g ∈ L, ∀ k, f.F k → ¬ g.F k) (h3 : Sep w L) : Sep w (f :: L) := ⟨h1, h2, h3⟩
theorem blk_F {g : Nat} {t : TypeId} {cs : List Value} {k : Nat} : (blk g t cs).F k ↔ k = g := by
  unfold blk
  exact Iff.rfl
theorem blk_P {g : Nat} {t : TypeId} {cs : List Value} {w : World} : (blk g t cs).P w ↔ Blk w g t cs.toArray := by
  unfold blk
  exact Iff.rfl
theorem read_facts {K : List Fa} {w w1 : World} {A : Option Addr} {n c : Nat} {bs : List Int} (hw : Sep w K) (hF : Fr Nil w w1) (hsz : w1.heap.size = w.heap.size + 3) (hR : RdR w1 (w.heap.size + 1) A n c bs true) :
    Sep w1 (rdb (w.heap.size + 1) A n c :: since w1 (fun k => k = w.heap.size + 1 ∨ foot K k) :: K) := by
  refine Sep.cons (blk_P.2 (by simpa using hR.blk)) (fun g hg k hk => ?_) (Sep.cons (Fr.refl _ _) (fun g hg k hk hk' => hk.2 (.inr ⟨g, hg, hk'⟩)) (hw.nil hF))
  rw [blk_F.1 hk]
  rcases List.mem_cons.1 hg with e | e
  · subst e
    exact fun h => h.2 (.inl rfl)
  · intro h
    have := hw.foot_lt _ ⟨g, e, h⟩
    omega
theorem read_mine {H K : List Fa} {w w1 w2 : World} {x : Fa} (hw : Sep w K) (hsz : w1.heap.size = w.heap.size + 3) (hx : x.F (w.heap.size + 1)) (hs : Sep w2 (x :: since w1 (fun k => k = w.heap.size + 1 ∨ foot K k) :: H)) : ∀ k, foot H k → ¬ Mine w k := by
  rintro k ⟨g, hg, hk⟩ (e | e)
  · subst e
    refine hs.tl.apart g hg _ ⟨by omega, fun h => ?_⟩ hk
    rcases h with h | h
    · omega
    · have := hw.foot_lt _ h
      omega
  · subst e
    exact hs.apart g (List.mem_cons_of_mem _ hg) _ hx hk
section
variable {α : Type} {K Z : List Fa} {A : Option Addr} {n c : Nat} {bs rest : List Int} {f : Nat} {caps : Array Value} {φ : α → Prop} {H : α → List Fa}
theorem read_ok (hcall : ∀ args w, (callFunc f args).run Try.prog w = .ok (.enter f args) w) (hz : Sub K Z) (h : Rd Z A n c bs) (hH : ∀ a, Sub (H a) Z)
    (hc : ∀ (r : Nat) (f0 : Fa), Fn Try.prog f (#[.pointer (some ⟨r, 0, none⟩)] ++ caps) (rdb r A n c :: f0 :: K) (Ret (fun p : α × Rg => φ p.1 ∧ p.2.ok Z rest) (fun _ => .tuple #[]) (fun p => rdb r p.2.A p.2.n p.2.c :: f0 :: H p.1))) :
    Fn Try.prog 50 #[.slice A n c, .func (.func f) #[] caps] K (Ret φ (fun _ => .int .i64 (endCode rest)) H) := by
  unfold Fn
  intro w hw
  refine (Read_left (rest := rest) (U := foot K) (G := fun w2 => ∃ a, φ a ∧ Sep w2 (H a) ∧ ∀ k, foot (H a) k → ¬ Mine w k) hcall (h.vw w (hw.sub hz)) h.le h.cb (fun k hk => hw.foot_lt k hk) ?_ ?_).mono ?_
  · intro w1 hF hsz hR
    have c1 := hc (w.heap.size + 1) (since w1 (fun k => k = w.heap.size + 1 ∨ foot K k))
    unfold Fn at c1
    refine (c1 w1 (read_facts hw hF hsz hR)).mono ?_
    rintro e w2 ⟨⟨a, q⟩, ⟨ha, hq⟩, he, hs⟩
    exact ⟨he, ⟨q.A, q.n, q.c, ⟨by simpa using blk_at hs .here, hq.vw w2 (hs.sub (Sub.skip (Sub.skip (hH a)))), hq.le, hq.cb⟩⟩, hs.at (.there .here), a, ha, hs.tl.tl, read_mine hw hsz (blk_F.2 rfl) hs⟩
  · rintro w2 w' hF ⟨a, ha, hs, hd⟩
    exact ⟨a, ha, hs.fr hF hd, hd⟩
  · rintro e w' ⟨he, _, a, ha, hs, _⟩
    exact ⟨a, ha, he, hs⟩
theorem read_die {x : Int} (hcall : ∀ args w, (callFunc f args).run Try.prog w = .ok (.enter f args) w) (hz : Sub K Z) (h : Rd Z A n c bs)
    (hc : ∀ (r : Nat) (f0 : Fa), Fn Try.prog f (#[.pointer (some ⟨r, 0, none⟩)] ++ caps) (rdb r A n c :: f0 :: K) (Pan (fun p : α × Rg => φ p.1) (fun _ => stopC x) (fun p => rdb r p.2.A p.2.n p.2.c :: f0 :: H p.1))) :
    Fn Try.prog 50 #[.slice A n c, .func (.func f) #[] caps] K (Ret φ (fun _ => .int .i64 x) H) := by
  unfold Fn
  intro w hw
  refine (Read_died (c := x) (U := foot K) (G := fun w2 => ∃ a, φ a ∧ Sep w2 (H a) ∧ ∀ k, foot (H a) k → ¬ Mine w k) hcall (h.vw w (hw.sub hz)) h.le h.cb (fun k hk => hw.foot_lt k hk) ?_ ?_).mono ?_
  · intro w1 hF hsz hR
    have c1 := hc (w.heap.size + 1) (since w1 (fun k => k = w.heap.size + 1 ∨ foot K k))
    unfold Fn at c1
    refine (c1 w1 (read_facts hw hF hsz hR)).mono ?_
    rintro e w2 ⟨⟨a, q⟩, ha, he, hs⟩
    exact ⟨he, ⟨_, by simpa using blk_at hs .here⟩, hs.at (.there .here), a, ha, hs.tl.tl, read_mine hw hsz (blk_F.2 rfl) hs⟩
  · rintro w2 w' hF ⟨a, ha, hs, hd⟩
    exact ⟨a, ha, hs.fr hF hd, hd⟩
  · rintro e w' ⟨he, _, a, ha, hs, _⟩
    exact ⟨a, ha, he, hs⟩
end
end Go.Proofs.Ytemhhhikopemmaa
/- Strings of bytes. No program is in sight. -/
namespace Go.Proofs.Ytemhhhikopemmaa
open Go.RowKit
theorem nums_back {p : List Int} (h : IsBytes p) : (p.map fun n => UInt8.ofNat n.toNat).map (fun u => (u.toNat : Int)) = p := by
  rw [List.map_map]
  conv => rhs; rw [← List.map_id p]
  refine List.map_congr_left fun x hx => ?_
  obtain ⟨h1, h2⟩ := h x hx
  simp [UInt8.toNat_ofNat']
  omega
theorem strOfNums_inj {p q : List Int} (hp : IsBytes p) (hq : IsBytes q) (h : strOfNums p = strOfNums q) : p = q := by
  have h1 : (strOfNums p).data.toList = (strOfNums q).data.toList := by rw [h]
  rw [strOfNums_data, strOfNums_data] at h1
  rw [← nums_back hp, ← nums_back hq, h1]
theorem str_toList (p : List Int) : (strOfNums p).toList = p.map fun n => UInt8.ofNat n.toNat := by
  rw [Lib.strOfNums_toList]
  rfl
theorem strs_dec {p q : List Int} (hp : IsBytes p) (hq : IsBytes q) : ((strOfNums p).toList == (strOfNums q).toList) = decide (p = q) := by
  rw [Bool.eq_iff_iff, beq_iff_eq, decide_eq_true_eq, str_toList, str_toList]
  constructor
  · intro h
    rw [← nums_back hp, ← nums_back hq, h]
  · intro h
    rw [h]
theorem pu_neqlb {P : Program} {C : World → Prop} {n : Nat} {l : Env} {ty t t' e : TypeId} {x y : Operand} {xs ys : List Int} {N : Nat} (hx : ev l x = some (.agg (bytes xs).toArray)) (hy : ev l y = some (.agg (bytes ys).toArray)) (ht : P.underlying t = some (.array N e)) (he : P.underlying e = some (.int .u8)) (hz : szOf P e = some 1) (hg : P.eqGuardType P.depth t = false)
    (hxl : xs.length = N) (hyl : ys.length = N) (hxb : IsBytes xs) (hyb : IsBytes ys) : Pu P C n l (.binOp .neq t x y t') ty (.bool (!decide (xs = ys))) := by
  unfold Pu
  intro a _ _ _ _ W hs _
  simp only [execOp, hs.ev hx, hs.ev hy]
  rw [u8s_cell hxb, u8s_cell hyb, Sem.run_bind, Sem.run_bind, run_eqGuard_agg (P := P) W _ t x y _ _ hg, Result.andThen_ok, run_neq_struct, run_equalIn_bytes W 9998 t e N ht he (run_size hz) _ _ (by simp [u8s, hxl]) (by simp [u8s, hyl]), u8s_eq hxb hyb]
  rfl
end Go.Proofs.Ytemhhhikopemmaa
/- append where there is no room, and of nothing. No program is in sight. -/
namespace Go.Proofs.Ytemhhhikopemmaa
open Go.RowKit
section
variable {P : Program} {ops : Array Oper} {Q : Exit → Act → World → Prop} {n : Nat} {l : Env} {L L' : List Fa} {rest : List Oper} {d : Tmp} {ty t t' e : TypeId} {pos : String} {after : Array Edge} {x y : Operand} {k m c cb size bytes : Nat} {A B : Option Addr} {xs ys : List Value} {z : Value}
/-- A slice whose room is its length: a new row. -/
theorem sl_app_full (hx : ev l x = some (.slice A k k)) (hr0 : Vw L (fun w => Reads w size A k xs)) (hk : 0 < k) (hy : ev l y = some (.slice B m cb)) (hr : Vw L (fun w => Reads w size B m ys)) (hm : 0 < m) (ht : P.underlying t = some (.slice e)) (hi : (P.info? e).map (fun i => (i.zero, i.size, i.bytes)) = some (some z, size, bytes)) (hzs : z.cells.size = size)
    (hd : Nat.blt d n = true) (h63 : k + m ≤ maxLen) (hby : (k + m) * bytes ≤ 140737488355328)
    (h : ∀ g c', SL P ops Q rest n ((d, .slice (some ⟨g, 0, none⟩) (k + m) c') :: l) (own e size (some ⟨g, 0, none⟩) (k + m) c' (xs ++ ys) :: L)) : SL P ops Q (⟨some d, .call { callee := .builtin .append, args := #[x, y], argTypes := #[t, t] }, ty, pos, after, none⟩ :: rest) n l L := sl_of fun w hw => by
  obtain ⟨i, hi0, hz0, hz1, hz2⟩ := info_parts hi
  subst hz1 hz2
  have hR0 := hr0 w hw
  have hR := hr w hw
  obtain ⟨ad, rfl, hc0⟩ := hR0.2 hk
  obtain ⟨bd, rfl, hc1⟩ := hR.2 hm
  have h63' : ((k + m : Nat) : Int) ≤ 9223372036854775807 := by
    have := h63
    simp [maxLen] at this
    omega
  have hrun := run_append_grow (P := P) (w := w) t ty e i z ht hi0 hz0 ad k k xs hR0.1 hc0 bd m cb ys hR.1 hc1 (by omega) h63' (growslice_fits (by omega) hby)
  have hge := grownCap_ge w (k + m) k e
  have hle := grownCap_le_maxLen w (k + m) k e h63
  refine wl_run (v := .slice (some ⟨w.heap.size, 0, none⟩) (k + m) (grownCap w (k + m) k e)) (w' := w.drew.alloc (.cells (xs.toArray ++ ys.toArray ++ Builtin.zeroCells z.cells (grownCap w (k + m) k e - (k + m))) e)) ?_ hd ((h w.heap.size _).to (hw.new ((Fr.refl Nil w).drew.alloc _) ?_ (fun j hj => ?_)))
  · unfold Ru
    intro a _ _ _ _ hs
    simp only [execOp, resolve, List.map_toArray, List.map_cons, List.map_nil, hs.ev hx, hs.ev hy]
    simp only [invoke, builtin, Sem.run_bind, Sem.run_pure, Result.andThen_ok, hrun]
  · have h0 := hR0.1
    have h1 := hR.1
    have h2 : (grownCap w (k + m) k e - (k + m)) * i.size = grownCap w (k + m) k e * i.size - (k + m) * i.size := Nat.sub_mul _ _ _
    have h3 : (k + m) * i.size ≤ grownCap w (k + m) k e * i.size := Nat.mul_le_mul_right _ hge
    have h4 : (k + m) * i.size = k * i.size + m * i.size := Nat.add_mul _ _ _
    refine own_mk (own_close (cur := xs.toArray ++ ys.toArray ++ Builtin.zeroCells z.cells (grownCap w (k + m) k e - (k + m))) (Blk.new w.drew e _) hge hle ?_ ?_ ?_)
    · simp only [Array.size_append, List.size_toArray, Builtin.zeroCells, Array.size_map, Array.size_range, hzs]
      omega
    · simp only [Array.toList_append, List.toList_toArray]
      rw [List.take_left']
      rw [List.length_append]
      omega
    · rw [List.length_append]
      omega
  · rw [own_F] at hj
    exact Nat.le_of_eq (Option.some.inj hj)
/-- Nothing is appended. -/
theorem sl_app_none (hx : ev l x = some (.slice A k c)) (hkc : k ≤ c) (hy : ev l y = some (.slice B 0 cb)) (ht : P.underlying t = some (.slice e)) (hi : (P.info? e).map (fun i => (i.zero, i.size, i.bytes)) = some (some z, size, bytes)) (hd : Nat.blt d n = true)
    (h : SL P ops Q rest n ((d, .slice A k c) :: l) L) : SL P ops Q (⟨some d, .call { callee := .builtin .append, args := #[x, y], argTypes := #[t, t] }, ty, pos, after, none⟩ :: rest) n l L := sl_of fun w hw => by
  obtain ⟨i, hi0, hz0, hz1, hz2⟩ := info_parts hi
  subst hz1 hz2
  have hrun : (Builtin.append_ #[t, t] ty #[.slice A k c, .slice B 0 cb]).run P w = .ok (.slice A k c) w := by
    have h2 : ∀ W : World, (Builtin.firstCells i.size 0 (.slice B 0 cb)).run P W = .ok #[] W := fun W => by
      cases B with
      | none => simp [Builtin.firstCells]
      | some b => simpa using run_firstCells_some (P := P) W i.size 0 b 0 cb [] (by simp) (by simp)
    cases A with
    | none => simp [Builtin.append_, run_underlying ht, sizeOf, typeInfo, hi0, Builtin.lenOf, hkc, h2]
    | some a => simp [Builtin.append_, run_underlying ht, sizeOf, typeInfo, hi0, Builtin.lenOf, hkc, h2, storeCells]
  refine wl_run (v := .slice A k c) (w' := w) ?_ hd (h.to hw)
  unfold Ru
  intro a _ _ _ _ hs
  simp only [execOp, resolve, List.map_toArray, List.map_cons, List.map_nil, hs.ev hx, hs.ev hy]
  simp only [invoke, builtin, Sem.run_bind, Sem.run_pure, Result.andThen_ok, hrun]
/-- A slice whose room is its length, read only: what there is behind it is a new row, or nothing new. -/
theorem sl_app_rd (hx : ev l x = some (.slice A k k)) (hr0 : Vw L (fun w => Reads w size A k xs)) (hy : ev l y = some (.slice B m cb)) (hr : Vw L (fun w => Reads w size B m ys)) (h1 : ∀ u ∈ ys, u.oneCell' = true) (ht : P.underlying t = some (.slice e)) (hi : (P.info? e).map (fun i => (i.zero, i.size, i.bytes)) = some (some z, size, bytes)) (hzs : z.cells.size = size) (hsz : 0 < size)
    (hd : Nat.blt d n = true) (h63 : k + m ≤ maxLen) (hby : (k + m) * bytes ≤ 140737488355328)
    (h : ∀ A' c' F, k + m ≤ c' → (∀ K, (m = 0 → Sub K L) → Vw (F :: K) (fun w => Reads w size A' (k + m) (xs ++ ys))) → SL P ops Q rest n ((d, .slice A' (k + m) c') :: l) (F :: L)) : SL P ops Q (⟨some d, .call { callee := .builtin .append, args := #[x, y], argTypes := #[t, t] }, ty, pos, after, none⟩ :: rest) n l L := by
  by_cases hm : m = 0
  · subst hm
    refine sl_app_none hx (Nat.le_refl _) hy ht hi hd ?_
    refine sl_know (φ := ys = []) (fun w hw => List.eq_nil_of_length_eq_zero (by have := (hr w hw).1; omega)) ?_
    rintro rfl
    have h2 := h A k (star []) (Nat.le_refl _) (fun K hK w hw => by rw [List.append_nil]; exact hr0 w (hw.tl.sub (hK rfl)))
    exact sl_sub (.free (fun w => by unfold star; exact (Sep.start w).sub Sub.nil) (fun j hj => by unfold star at hj; exact foot_nil hj) .refl) h2
  by_cases hk : k = 0
  · subst hk
    have hnew : ∀ L0 : List Fa, Vw L0 (fun w => Reads w size B m ys) → (∀ A' c', SL P ops Q rest n ((d, .slice A' m c') :: l) (own e size A' m c' ys :: L0)) → A = none → SL P ops Q (⟨some d, .call { callee := .builtin .append, args := #[x, y], argTypes := #[t, t] }, ty, pos, after, none⟩ :: rest) n l L0 := fun L0 hr' hk' hA => by
      subst hA
      exact sl_app_nil hx hy hr' h1 ht hi hzs hsz hd (by omega) (by simpa using hby) hk'
    refine sl_know (φ := xs = []) (fun w hw => List.eq_nil_of_length_eq_zero (by have := (hr0 w hw).1; omega)) ?_
    rintro rfl
    simp only [Nat.zero_add, List.nil_append] at h h63 hby
    cases A with
    | none =>
      refine hnew L hr (fun A' c' => ?_) rfl
      refine sl_know (fun w hw => (own_len (e := e) (size := size) (A := A') hw .here).2) ?_
      rintro ⟨l1, -⟩
      exact h A' c' _ l1 (fun K _ => Vw.of_own .here)
    | some ad =>
      refine sl_of fun w hw => ?_
      obtain ⟨i, hi0, hz0, hz1, hz2⟩ := info_parts hi
      subst hz1 hz2
      have hR := hr w hw
      obtain ⟨bd, rfl, hc1⟩ := hR.2 (by omega)
      have h63' : ((0 + m : Nat) : Int) ≤ 9223372036854775807 := by
        have := h63
        simp [maxLen] at this
        omega
      have hrun := run_append_grow (P := P) (w := w) t ty e i z ht hi0 hz0 ad 0 0 [] (by simp) (fun j v hj => by simp at hj) bd m cb ys hR.1 hc1 (by omega) h63' (growslice_fits (by omega) (by rw [Nat.zero_add]; exact hby))
      rw [Nat.zero_add] at hrun
      have hge := grownCap_ge w m 0 e
      have hle := grownCap_le_maxLen w m 0 e h63
      refine wl_run (v := .slice (some ⟨w.heap.size, 0, none⟩) m (grownCap w m 0 e)) (w' := w.drew.alloc (.cells (([] : List Value).toArray ++ ys.toArray ++ Builtin.zeroCells z.cells (grownCap w m 0 e - m)) e)) ?_ hd ((h (some ⟨w.heap.size, 0, none⟩) _ (own e i.size (some ⟨w.heap.size, 0, none⟩) m (grownCap w m 0 e) ys) hge (fun K _ => Vw.of_own .here)).to (hw.new ((Fr.refl Nil w).drew.alloc _) ?_ (fun j hj => ?_)))
      · unfold Ru
        intro a _ _ _ _ hs
        simp only [execOp, resolve, List.map_toArray, List.map_cons, List.map_nil, hs.ev hx, hs.ev hy]
        simp only [invoke, builtin, Sem.run_bind, Sem.run_pure, Result.andThen_ok, hrun]
      · have h1 := hR.1
        have h2 : (grownCap w m 0 e - m) * i.size = grownCap w m 0 e * i.size - m * i.size := Nat.sub_mul _ _ _
        have h3 : m * i.size ≤ grownCap w m 0 e * i.size := Nat.mul_le_mul_right _ hge
        refine own_mk (own_close (cur := ([] : List Value).toArray ++ ys.toArray ++ Builtin.zeroCells z.cells (grownCap w m 0 e - m)) (Blk.new w.drew e _) hge hle ?_ ?_ ?_)
        · simp only [Array.size_append, List.size_toArray, Builtin.zeroCells, Array.size_map, Array.size_range, hzs, List.length_nil]
          omega
        · simp only [Array.toList_append, List.toList_toArray, List.nil_append]
          rw [List.take_left']
          omega
        · omega
      · rw [own_F] at hj
        exact Nat.le_of_eq (Option.some.inj hj)
  · refine sl_app_full hx hr0 (by omega) hy hr (by omega) ht hi hzs hd h63 hby (fun g c' => ?_)
    refine sl_know (fun w hw => (own_len (e := e) (size := size) (A := some ⟨g, 0, none⟩) hw .here).2) ?_
    rintro ⟨l1, -⟩
    exact h _ c' _ l1 (fun K _ => Vw.of_own .here)
end
end Go.Proofs.Ytemhhhikopemmaa
