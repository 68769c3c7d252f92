/- Several texts of one claim, one behind the other. -/
import Derived.Test.YtocaabnbmcpjmaaGreatB06
import Derived.Test.YtocaabnbmcpjmaaGreatB01
import Derived.Test.YtocaabnbmcpjmaaGreatB04
import Derived.Test.YtocaabnbmcpjmaaGreatB05
import Derived.Test.YtocaabnbmcpjmaaGreatRows
import Derived.WideKeyArr
import Derived.Test.YtocaabnbmcpjmaaGreatB03
import Derived.Lib.Bytealg
set_option linter.unusedVariables false
set_option linter.unusedSimpArgs false
set_option maxRecDepth 100000
set_option maxHeartbeats 16000000
namespace Go.Proofs.YtocaabnbmcpjmaaGreat
variable {φ ψ : Prop}
section
open Go.RowKit
attribute [local irreducible] Go.Calls Go.Exit.then Go.Exit.inBlock Go.bodyPost Go.Code.wp Go.wpList
section
abbrev rdb (r : Nat) (A : Option Addr) (n c : Nat) : Fa := blk r 201 [.slice A n c, .bool true]
structure Rd (Z : List Fa) (A : Option Addr) (n c : Nat) (rest : List Int) : Prop where
 vw : Vw Z (fun w => Reads w 1 A n (bytes rest))
 le : n ≤ c
 big : n ≤ 70368744177664
 cb : c ≤ maxLen
 len : rest.length = n
 okb : IsBytes rest
theorem Rd.next {Z : List Fa} {A : Option Addr} {n c : Nat} {rest : List Int} (h : Rd Z A n c rest) {k : Nat} (hk : k ≤ n) : Rd Z (cutA A c k 1) (n - k) (c - k) (rest.drop k) := by
 have hl := h.le
 refine ⟨fun w hw => ?_, by omega, by have := h.big; omega, by have := h.cb; omega, by rw [List.length_drop, h.len], h.okb.drop k⟩
 have h1 := (h.vw w hw).cut (k := k) (cap := c) hk h.le
 have h2 : (bytes rest).drop (k * 1) = bytes (rest.drop k) := by rw [Nat.mul_one]; simp [bytes]
 rw [h2] at h1
 exact h1
structure Rg where
 A : Option Addr
 n : Nat
 c : Nat
abbrev Rg.ok (Z : List Fa) (rest : List Int) (q : Rg) : Prop := Rd Z q.A q.n q.c rest
def stopC (c : Int) : List PanicEntry := [{ v := stopV c, recovered := false }]
theorem rFail {K : List Fa} {r : Nat} {s : Value} {c : Int} (hc : (c == 0) = false) : Fn Tryz.prog 96 #[.pointer (some ⟨r, 0, none⟩), .int .i64 c] (blk r 201 [s, .bool true] :: K) (Pan (fun _ : Unit => True) (fun _ => stopC c) (fun _ => blk r 201 [s, .bool true] :: K)) := by
 unfold Fn
 intro w hw
 have hB := blk_at hw .here
 refine (Fail_stop (by simpa using hB) c hc).mono ?_; rintro e w' ⟨rfl, rfl⟩; exact ⟨(), trivial, rfl, hw⟩
theorem bytes_take (xs : List Int) (k : Nat) : (bytes xs).take (k * 1) = bytes (xs.take k) := by rw [Nat.mul_one]; simp [bytes]
namespace pPr
theorem szx_ (h : φ := by ((first | (simp only [bytes_length, Id.len]; rfl) | (simp only [bytes_length, Id.len])); first | done | fail)) : φ := h
end pPr
open pPr
theorem rRaw {K Z : List Fa} {r n c k : Nat} {A : Option Addr} {rest : List Int} (hz : Sub K Z) (h : Rd Z A n c rest) (hk : k ≤ n) :
  Fn Tryz.prog 126 #[.pointer (some ⟨r, 0, none⟩), .int .i64 k] (rdb r A n c :: K) (Ret (fun p : (Option Addr × Nat) × Rg => p.2.ok Z (rest.drop k)) (fun p => .slice p.1.1 k p.1.2) (fun p => own 5 1 p.1.1 k p.1.2 (bytes (rest.take k)) :: rdb r p.2.A p.2.n p.2.c :: K)) := by
 have hle := h.le
 have hbig := h.big
 refine fe_ Tryz.func126 Tryz.ntmps126 [(0, .pointer (some ⟨r, 0, none⟩)), (1, .int .i64 k)] ?_; refine go_ ?_; refine sl_build0 (e := 5) (size := 1) rfl (fun W => by kernel_rfl) rfl ?_; intro g0; refine go_ ?_; refine sl_app rfl pick_ rfl (Vw.imp (h.vw.mono (L' := _ :: _ :: K) (Sub.skip (Sub.skip hz))) (fun w h => h.take hk)) (by rw [bytes_take]; exact one_bytes _) rfl Tryz.info5 (by decide) (by decide) rfl (by unfold maxLen; omega) (by omega) ?_
 intro A' c'
 rw [Nat.zero_add, List.nil_append, bytes_take]; refine go_ ?_; exact se_ret1 ((A', c'), ⟨cutA A c k 1, n - k, c - k⟩) (h.next hk) rfl rfl sub_
theorem rRaw_die {K : List Fa} {r n c : Nat} {k : Int} {A : Option Addr} (hk : k < 0 ∨ (n : Int) < k) :
  Fn Tryz.prog 126 #[.pointer (some ⟨r, 0, none⟩), .int .i64 k] (rdb r A n c :: K) (Pan (fun _ : Unit => True) (fun _ => stopC 3) (fun _ => rdb r A n c :: K)) := by
 refine fe_ Tryz.func126 Tryz.ntmps126 [(0, .pointer (some ⟨r, 0, none⟩)), (1, .int .i64 k)] ?_
 by_cases h0 : k < 0
 ·refine go_ ?_; refine sl_die rfl rfl (by kernel_rfl) Sub.refl (rFail rfl) ?_; rintro _ -; refine go_ ?_; exact se_panic () trivial sub_
 ·have h1 : (n : Int) < k := by omega
  refine go_ ?_; refine sl_die rfl rfl (by kernel_rfl) Sub.refl (rFail rfl) ?_; rintro _ -; refine go_ ?_; exact se_panic () trivial sub_
theorem rUint {K Z : List Fa} {r n c k : Nat} {A : Option Addr} {rest : List Int} (hz : Sub K Z) (h : Rd Z A n c rest) (hk8 : k ≤ 8) (hk : k ≤ n) :
  Fn Tryz.prog 88 #[.pointer (some ⟨r, 0, none⟩), .int .i64 k] (rdb r A n c :: K) (Ret (fun p : Rg => p.ok Z (rest.drop k)) (fun _ => .int .u64 (leV (rest.take k))) (fun p => rdb r p.A p.n p.c :: K)) := by
 have htl : (rest.take k).length = k := by rw [List.length_take, h.len]; omega
 have htb : IsBytes (rest.take k) := h.okb.take k
 have hmm := min_max8 hk8
 refine fe_ Tryz.func88 Tryz.ntmps88 [(0, .pointer (some ⟨r, 0, none⟩)), (1, .int .i64 k)] ?_
 repeat (first | rw [hmm] | (first | refine su_ ?_ | refine so_ ?_))
 refine slc_ rfl rfl Sub.refl (rRaw hz h hk) ?_; rintro ⟨⟨P, cp⟩, q⟩ hq
 dsimp only at hq ⊢
 generalize rest.take k = xs at *
 refine sl_know (fun w hw => (own_len (e := 5) (size := 1) (A := P) hw .here).2) ?_; rintro ⟨hc1, hc2⟩; refine go_ ?_; refine sc_bjoin (fun _ : Unit => [(5, .int .u64 (leV xs))]) (fun _ => own 5 1 P k cp (bytes xs) :: rdb r q.A q.n q.c :: K) (fun _ => True) ?_ ?_
 ·refine sc_for (fun j : Nat => [(5, .int .u64 (leV (xs.take j))), (12, .slice P k cp), (13, .int .i64 k), (14, .int .i64 j)]) (fun _ => own 5 1 P k cp (bytes xs) :: rdb r q.A q.n q.c :: K) (fun j => j ≤ k) (fun j => k - j) 0 has_ sub_ (Nat.zero_le _) ?_; intro j hj
  by_cases hlt : j < k
  ·have hxl : j < xs.length := by omega
   have hst := or_step htb j hxl (by omega)
   have hx0 := htb _ (List.getElem_mem hxl)
   refine sc_form (A := P) at_ (by omega) ?_; rintro g rfl; refine go_ ?_; refine sl_pu (pu_ldr (v := .int .u8 xs[j]) (Vw.of_own at_) (by omega) rfl rfl (by rw [nth_eq]; simp [bytes])) rfl ?_
   generalize xs[j] = x at *
   refine go_ ?_; rw [show (8 * (j : Int)).toNat = 8 * j from by omega, hst]; refine go_ ?_; exact se_round (j + 1) has_ sub_ hlt (by omega)
  ·obtain rfl : j = k := by omega
   have e : xs.take j = xs := by rw [← htl, List.take_length]
   rw [e]; refine go_ ?_; exact se_mid () has_ sub_ trivial
 rintro _ -; refine go_ ?_; exact se_ret1 q hq rfl rfl sub_
theorem rUint_die {K : List Fa} {r n c k : Nat} {A : Option Addr} (hk8 : k ≤ 8) (hk : n < k) :
  Fn Tryz.prog 88 #[.pointer (some ⟨r, 0, none⟩), .int .i64 k] (rdb r A n c :: K) (Pan (fun _ : Unit => True) (fun _ => stopC 3) (fun _ => rdb r A n c :: K)) := by
 have hmm := min_max8 hk8
 refine fe_ Tryz.func88 Tryz.ntmps88 [(0, .pointer (some ⟨r, 0, none⟩)), (1, .int .i64 k)] ?_
 repeat (first | rw [hmm] | (first | refine su_ ?_ | refine so_ ?_))
 refine sl_die rfl rfl (by kernel_rfl) Sub.refl (rRaw_die (.inr (by omega))) ?_; rintro _ -; refine go_ ?_; exact se_panic () trivial sub_
theorem rCount {K Z : List Fa} {r n c k : Nat} {A : Option Addr} {rest : List Int} {most : Int} (hz : Sub K Z) (h : Rd Z A n c rest) (hk8 : k ≤ 8) (hk : k ≤ n) (hm : leV (rest.take k) ≤ most) (hmb : most ≤ 9223372036854775807) :
  Fn Tryz.prog 154 #[.pointer (some ⟨r, 0, none⟩), .int .i64 k, .int .u64 most] (rdb r A n c :: K) (Ret (fun p : Rg => p.ok Z (rest.drop k)) (fun _ => .int .i64 (leV (rest.take k))) (fun p => rdb r p.A p.n p.c :: K)) := by
 have h0 := (leV_lt (h.okb.take k)).1
 refine fe_ Tryz.func154 Tryz.ntmps154 [(0, .pointer (some ⟨r, 0, none⟩)), (1, .int .i64 k), (2, .int .u64 most)] ?_; refine go_ ?_; refine slc_ rfl rfl Sub.refl (rUint hz h hk8 hk) ?_; intro q hq
 generalize leV (rest.take k) = v at *
 refine go_ ?_; exact se_ret1 q hq rfl rfl sub_
theorem rCount_range {K Z : List Fa} {r n c k : Nat} {A : Option Addr} {rest : List Int} {most : Int} (hz : Sub K Z) (h : Rd Z A n c rest) (hk8 : k ≤ 8) (hk : k ≤ n) (hm : most < leV (rest.take k)) :
  Fn Tryz.prog 154 #[.pointer (some ⟨r, 0, none⟩), .int .i64 k, .int .u64 most] (rdb r A n c :: K) (Pan (fun _ : Rg => True) (fun _ => stopC 6) (fun p => rdb r p.A p.n p.c :: K)) := by
 refine fe_ Tryz.func154 Tryz.ntmps154 [(0, .pointer (some ⟨r, 0, none⟩)), (1, .int .i64 k), (2, .int .u64 most)] ?_; refine go_ ?_; refine slc_ rfl rfl Sub.refl (rUint hz h hk8 hk) ?_; intro q hq
 generalize leV (rest.take k) = v at *
 refine go_ ?_; refine sl_die rfl rfl (by kernel_rfl) Sub.refl (rFail rfl) ?_; rintro _ -; refine go_ ?_; exact se_panic q trivial sub_
theorem max_0 {m : Nat} : (if (m : Int) < 0 then 0 else (m : Int)) = (m : Int) := by
 split <;> omega
theorem rLong {K Z : List Fa} {r n c m k : Nat} {A : Option Addr} {rest : List Int} (hz : Sub K Z) (h : Rd Z A n c rest) (hk4 : 4 ≤ n) (hv : leV (rest.take 4) = k) (hm : k ≤ m) (hk : k ≤ n - 4) (hmb : m ≤ 1000000000) :
  Fn Tryz.prog 90 #[.pointer (some ⟨r, 0, none⟩), .int .i64 m] (rdb r A n c :: K) (Ret (fun p : (Option Addr × Nat) × Rg => p.2.ok Z (rest.drop (4 + k))) (fun p => .slice p.1.1 k p.1.2) (fun p => own 5 1 p.1.1 k p.1.2 (bytes ((rest.drop 4).take k)) :: rdb r p.2.A p.2.n p.2.c :: K)) := by
 have hmm := max_0 (m := m)
 refine fe_ Tryz.func90 Tryz.ntmps90 [(0, .pointer (some ⟨r, 0, none⟩)), (1, .int .i64 m)] ?_; refine go_ ?_; refine slc_ rfl rfl Sub.refl (rUint (k := 4) hz h (by decide) hk4) ?_; intro q hq; rw [hv]
 repeat (first | rw [hmm] | (first | refine su_ ?_ | refine so_ ?_))
 have hqn : q.n = n - 4 := by
  have h1 := hq.len
  have h2 := h.len
  rw [List.length_drop] at h1
  omega
 refine slc_ rfl rfl Sub.refl (rRaw (k := k) hz hq (by omega)) ?_; rintro ⟨⟨P, cp⟩, q'⟩ hq'
 rw [List.drop_drop] at hq'
 dsimp only at hq' ⊢
 refine go_ ?_; exact se_ret1 ((P, cp), q') hq' rfl rfl sub_
theorem rLong_die {K : List Fa} {r n c m : Nat} {A : Option Addr} (hk4 : n < 4) :
  Fn Tryz.prog 90 #[.pointer (some ⟨r, 0, none⟩), .int .i64 m] (rdb r A n c :: K) (Pan (fun _ : Unit => True) (fun _ => stopC 3) (fun _ => rdb r A n c :: K)) := by
 refine fe_ Tryz.func90 Tryz.ntmps90 [(0, .pointer (some ⟨r, 0, none⟩)), (1, .int .i64 m)] ?_; refine go_ ?_; refine sl_die rfl rfl (by kernel_rfl) Sub.refl (rUint_die (k := 4) (by decide) hk4) ?_; rintro _ -; refine go_ ?_; exact se_panic () trivial sub_
theorem rLong_die4 {K Z : List Fa} {r n c m k : Nat} {A : Option Addr} {rest : List Int} (hz : Sub K Z) (h : Rd Z A n c rest) (hk4 : 4 ≤ n) (hv : leV (rest.take 4) = k) (hm : m < k) (hmb : m ≤ 1000000000) :
  Fn Tryz.prog 90 #[.pointer (some ⟨r, 0, none⟩), .int .i64 m] (rdb r A n c :: K) (Pan (fun _ : Rg => True) (fun _ => stopC 4) (fun p => rdb r p.A p.n p.c :: K)) := by
 have hmm := max_0 (m := m)
 refine fe_ Tryz.func90 Tryz.ntmps90 [(0, .pointer (some ⟨r, 0, none⟩)), (1, .int .i64 m)] ?_; refine go_ ?_; refine slc_ rfl rfl Sub.refl (rUint (k := 4) hz h (by decide) hk4) ?_; intro q hq; rw [hv]
 repeat (first | rw [hmm] | (first | refine su_ ?_ | refine so_ ?_))
 refine sl_die rfl rfl (by kernel_rfl) Sub.refl (rFail rfl) ?_; rintro _ -; refine go_ ?_; exact se_panic q trivial sub_
theorem rLong_die3 {K Z : List Fa} {r n c m k : Nat} {A : Option Addr} {rest : List Int} (hz : Sub K Z) (h : Rd Z A n c rest) (hk4 : 4 ≤ n) (hv : leV (rest.take 4) = k) (hm : k ≤ m) (hk : n - 4 < k) (hmb : m ≤ 1000000000) :
  Fn Tryz.prog 90 #[.pointer (some ⟨r, 0, none⟩), .int .i64 m] (rdb r A n c :: K) (Pan (fun _ : Rg => True) (fun _ => stopC 3) (fun p => rdb r p.A p.n p.c :: K)) := by
 have hmm := max_0 (m := m)
 refine fe_ Tryz.func90 Tryz.ntmps90 [(0, .pointer (some ⟨r, 0, none⟩)), (1, .int .i64 m)] ?_; refine go_ ?_; refine slc_ rfl rfl Sub.refl (rUint (k := 4) hz h (by decide) hk4) ?_; intro q hq; rw [hv]
 repeat (first | rw [hmm] | (first | refine su_ ?_ | refine so_ ?_))
 have hqn : q.n = n - 4 := by
  have h1 := hq.len
  have h2 := h.len
  rw [List.length_drop] at h1
  omega
 refine sl_die rfl rfl (by kernel_rfl) Sub.refl (rRaw_die (k := (k : Int)) (.inr (by omega))) ?_; rintro _ -; refine go_ ?_; exact se_panic q trivial sub_
theorem id16 (id : Id) (zs : List Value) (h : zs.length = 16) : zs.take 0 ++ bytes id.l ++ zs.drop (0 + (bytes id.l).length) = bytes id.l := by
 rw [List.take_zero, List.nil_append, List.drop_of_length_le (by rw [bytes_length, id.len]; omega), List.append_nil]
theorem rId {K Z : List Fa} {r n c : Nat} {A : Option Addr} {rest : List Int} (hz : Sub K Z) (h : Rd Z A n c rest) (hk : 16 ≤ n) (id : Id) (hid : rest.take 16 = id.l) :
  Fn Tryz.prog 89 #[.pointer (some ⟨r, 0, none⟩)] (rdb r A n c :: K) (Ret (fun p : Rg => p.ok Z (rest.drop 16)) (fun _ => id.v) (fun p => rdb r p.A p.n p.c :: K)) := by
 refine fe_ Tryz.func89 Tryz.ntmps89 [(0, .pointer (some ⟨r, 0, none⟩))] ?_; refine go_ ?_; refine al_ ?_; intro g2; refine go_ ?_; refine al_ ?_; intro g3; refine go_ ?_; refine sd_drawn (fun _ => True) (fun _ => true) (by kernel_rfl) 4 rfl ?_; refine wt_ 0 ?_; refine wt_ 1 ?_; refine sd_call 2 (by kernel_rfl) rfl rfl rfl (by kernel_rfl) rfl sub_ (rRaw (K := blk g3 _ _ :: blk g2 _ _ :: K) (k := 16) (Sub.skip (Sub.skip hz)) h hk) (fun _ _ _ _ => trivial) ?_; rintro ⟨⟨P, cp⟩, q⟩ hq; rw [hid]
 dsimp only at hq ⊢
 refine sd_know (own_form_at (A := P) .here (by decide)) ?_; rintro ⟨g, rfl⟩; refine sd_copy_blk (e := 5) (size := 1) (kk := 16) 3 (by kernel_rfl) rfl rfl pick_ rfl rfl rfl rfl (by rw [bytes_length, id.len]) (own_cells .here Mid.all (by decide)) (by rw [bytes_length, id.len]; decide) (one_bytes _) rfl (fun _ _ => trivial) ?_; refine sd_done (by kernel_rfl) ?_; rw [id16 id _ rfl]; refine go_ ?_; exact se_ret_c q hq rfl rfl at_ rfl rfl sz_ rfl sub_
theorem rId_die {K : List Fa} {r n c : Nat} {A : Option Addr} (hk : n < 16) :
  Fn Tryz.prog 89 #[.pointer (some ⟨r, 0, none⟩)] (rdb r A n c :: K) (Pan (fun _ : Unit => True) (fun _ => stopC 3) (fun _ => rdb r A n c :: K)) := by
 refine fe_ Tryz.func89 Tryz.ntmps89 [(0, .pointer (some ⟨r, 0, none⟩))] ?_; refine go_ ?_; refine al_ ?_; intro g2; refine go_ ?_; refine al_ ?_; intro g3; refine go_ ?_; refine sd_drawn (fun _ => True) (fun _ => true) (by kernel_rfl) 4 rfl ?_; refine wt_ 0 ?_; refine wt_ 1 ?_; refine sd_die 2 (by kernel_rfl) rfl rfl rfl (by kernel_rfl) rfl sub_ (rRaw_die (k := ((16 : Nat) : Int)) (.inr (by omega))) ?_; rintro _ -; refine go_ ?_; exact se_panic () trivial sub_
end
end
section
open Go.RowKit
section
attribute [local go_sem ↓] Go.wp_at_zero Go.wp_at_succ
def RdEnd {α : Type} (φ : α → Prop) (m : α → Nat) (χ : α → Option Int) (H : α → List Fa) (r : Nat) (F1 F2 : Fa) (e : Ending) (w : World) : Prop :=
 ∃ x, φ x ∧ match χ x with
  | none => e = .returned (.tuple #[]) ∧ ∃ A c, Sep w (rdb r A (m x) c :: F1 :: F2 :: H x)
  | some c => e = .panicked (stopC c) ∧ ∃ s, Sep w (blk r 201 [s, .bool true] :: F1 :: F2 :: H x)
def rdCode (m : Nat) : Option Int → Int
 | some c => c
 | none => if m = 0 then 0 else 27
theorem read_fn {K : List Fa} {A : Option Addr} {n c : Nat} {f : Nat} {caps : Array Value} {α : Type} {φ : α → Prop} {m : α → Nat} {χ : α → Option Int} {H : α → List Fa} (hcall : ∀ args w, (callFunc f args).run Tryz.prog w = .ok (.enter f args) w)
  (hbody : ∀ (r : Nat) (F1 F2 : Fa), Fn Tryz.prog f (#[.pointer (some ⟨r, 0, none⟩)] ++ caps) (rdb r A n c :: F1 :: F2 :: K) (RdEnd φ m χ H r F1 F2)) :
  Fn Tryz.prog 86 #[.slice A n c, .func (.func f) #[] caps] K (Ret φ (fun x => .int .i64 (rdCode (m x) (χ x))) H) := by
 unfold Fn
 intro w hw
 have hmf : ∀ (fn : Go.Fn) (first cap : Array Value) (w : World), (Instr.makeFunc fn first cap).run Tryz.prog w = .ok (.func fn first cap) w := fun _ _ _ _ => rfl
 have hnf := func_nil (.func f) #[] caps
 have s1 := hw.newBlk ((Fr.refl Nil _).alloc _) (Blk.new w 42 #[.int .i64 0])
 have s2 := s1.newBlk ((Fr.refl Nil _).alloc _) (Blk.new _ 201 #[.slice A n c, .bool true])
 have s3 := s2.newBlk ((Fr.refl Nil _).alloc _) (Blk.new _ 161 #[.pointer (some ⟨w.heap.size + 1, 0, none⟩)])
 go_enter_defers Tryz.func86, Tryz.ntmps86
 go_wp2_with fail
 have hb0 := hbody (w.heap.size + 1) (blk w.heap.size 42 [.int .i64 0]) (blk (w.heap.size + 1 + 1) 161 [.pointer (some ⟨w.heap.size + 1, 0, none⟩)])
 unfold Fn at hb0
 have s4 : Sep (((w.alloc (.cells #[.int .i64 0] 42)).alloc (.cells #[.slice A n c, .bool true] 201)).alloc (.cells #[.pointer (some ⟨w.heap.size + 1, 0, none⟩)] 161)) (blk (w.heap.size + 1 + 1) 161 [.pointer (some ⟨w.heap.size + 1, 0, none⟩)] :: blk (w.heap.size + 1) 201 [.slice A n c, .bool true] :: blk w.heap.size 42 [.int .i64 0] :: K) := by simpa using s3
 have hb := hb0 _ (s4.sub (by ((repeat (first | exact Sub.refl | exact Sub.nil | (apply Sub.cons; (repeat (first | exact Pick.here | apply Pick.there)); show Sub _ _) | apply Sub.skip)); first | done | fail)))
 clear s4
 rw [show #[Value.pointer (some ⟨w.heap.size + 1, 0, none⟩)] ++ caps = (#[] : Array Value).push (Value.pointer (some ⟨w.heap.size + 1, 0, none⟩)) ++ caps from rfl] at hb
 clear s1 s2 s3 hb0 hbody
 generalize ((w.alloc (.cells #[.int .i64 0] 42)).alloc (.cells #[.slice A n c, .bool true] 201)).alloc (.cells #[.pointer (some ⟨w.heap.size + 1, 0, none⟩)] 161) = w1 at *
 refine hb.mono ?_; rintro e w2 ⟨x, hx, hxe⟩
 cases hχ : χ x with
 | none =>
  rw [hχ] at hxe
  obtain ⟨rfl, A2, c2, h4⟩ := hxe
  have hR2 := blk_at h4 .here
  have hC0 := blk_at h4 (.there .here)
  have hC2 := blk_at h4 (.there (.there .here))
  have h5 : Sep w2 (blk w.heap.size 42 [.int .i64 0] :: rdb (w.heap.size + 1) A2 (m x) c2 :: H x) := h4.sub (by ((repeat (first | exact Sub.refl | exact Sub.nil | (apply Sub.cons; (repeat (first | exact Pick.here | apply Pick.there)); show Sub _ _) | apply Sub.skip)); first | done | fail))
  have a1 := h5.apart
  have a2 := h5.tl.apart
  have c0 := hC2.cell 0
  have c1 := hR2.cell 0
  have c3 := hR2.cell 1
  have c4 := hR2.frozen 1
  have c5 := hC0.cell 0
  have c6 := hC0.frozen 0
  simp at c0 c1 c3 c5
  have hfin : ∀ u : Int, Sep ((w2.setCell ⟨w.heap.size, 0, none⟩ (.int .i64 u)).setCell ⟨w.heap.size + 1, 1, none⟩ (.bool false)) (H x) := fun u => by
   have hF : Fr (fun k => k = w.heap.size ∨ k = w.heap.size + 1) w2 ((w2.setCell ⟨w.heap.size, 0, none⟩ (.int .i64 u)).setCell ⟨w.heap.size + 1, 1, none⟩ (.bool false)) := ((Fr.refl _ w2).setCell (.inr (.inl rfl)) _).setCell (.inr (.inr rfl)) _
   refine h5.tl.tl.fr hF (fun k ⟨f, hf, hk⟩ e => ?_)
   rcases e with e | e
   ·exact a1 f (List.mem_cons_of_mem _ hf) k (by unfold blk; exact e) hk
   ·exact a2 f hf k (by unfold rdb blk; exact e) hk
  by_cases hm : m x = 0
  ·rw [hm] at c1
   clear hb
   go_wp2
   refine leaves_cons (f := 125) (args := #[.pointer (some ⟨w.heap.size + 1 + 1, 0, none⟩), .pointer (some ⟨w.heap.size, 0, none⟩)]) (by simp) (by simp [go_sem]) ?_; refine (Read1_idle (w.heap.size + 1 + 1) w.heap.size (w.heap.size + 1) _ (by simp [go_sem, c0]) (by simp [go_sem, c3]) (by simp [go_sem, c4])).mono ?_; rintro e u' w'' ⟨rfl, rfl, rfl⟩; exact ⟨.int .i64 0, by simp [results, Tryz.results86, go_sem, c5], x, hx, by simp [rdCode, hχ, hm], hfin 0⟩
  ·have hn2 : (0 : Int) < (m x : Int) := by omega
   clear hb
   go_wp2
   refine leaves_cons (f := 125) (args := #[.pointer (some ⟨w.heap.size + 1 + 1, 0, none⟩), .pointer (some ⟨w.heap.size, 0, none⟩)]) (by simp) (by simp [go_sem]) ?_; refine (Read1_idle (w.heap.size + 1 + 1) w.heap.size (w.heap.size + 1) _ (by simp [go_sem, c0]) (by simp [go_sem, c3]) (by simp [go_sem, c4])).mono ?_; rintro e u' w'' ⟨rfl, rfl, rfl⟩; exact ⟨.int .i64 27, by simp [results, Tryz.results86, go_sem, c5], x, hx, by simp [rdCode, hχ, hm], hfin 27⟩
 | some cc =>
  rw [hχ] at hxe
  obtain ⟨rfl, s, h4⟩ := hxe
  have hR2 := blk_at h4 .here
  have hC0 := blk_at h4 (.there .here)
  have hC2 := blk_at h4 (.there (.there .here))
  have h5 : Sep w2 (blk w.heap.size 42 [.int .i64 0] :: blk (w.heap.size + 1) 201 [s, .bool true] :: H x) := h4.sub (by ((repeat (first | exact Sub.refl | exact Sub.nil | (apply Sub.cons; (repeat (first | exact Pick.here | apply Pick.there)); show Sub _ _) | apply Sub.skip)); first | done | fail))
  have a1 := h5.apart
  have a2 := h5.tl.apart
  have c0 := hC2.cell 0
  have c3 := hR2.cell 1
  have c4 := hR2.frozen 1
  have c5 := hC0.cell 0
  have c6 := hC0.frozen 0
  have hlt := hC0.lt
  simp at c0 c3 c5
  show bodyPostD _ _ _ _ _ _
  refine leaves_cons (f := 125) (args := #[.pointer (some ⟨w.heap.size + 1 + 1, 0, none⟩), .pointer (some ⟨w.heap.size, 0, none⟩)]) (by simp) (by simp [go_sem]) ?_; refine (Read1_stop (w.heap.size + 1 + 1) w.heap.size (w.heap.size + 1) cc _ [] _ c0 c3 c4 c5 c6 (by omega) hlt).mono ?_; rintro e u' w'' ⟨rfl, rfl, rfl⟩
  have hfin := (((hC0.far (p := ⟨w.heap.size + 1, 1, none⟩) (by simp) (.bool false)).set_ 0 (.int .i64 cc)).alloc (.cells #[.int .i64 cc] 203)).cell 0
  simp at hfin
  refine ⟨.int .i64 cc, by simp [results, Tryz.results86, go_sem, hfin], x, hx, by simp [rdCode, hχ], ?_⟩
  have hF : Fr (fun k => k = w.heap.size ∨ k = w.heap.size + 1) w2 (((w2.setCell ⟨w.heap.size + 1, 1, none⟩ (.bool false)).setCell ⟨w.heap.size, 0, none⟩ (.int .i64 cc)).alloc (.cells #[.int .i64 cc] 203)) := (((Fr.refl _ w2).setCell (.inr (.inr rfl)) _).setCell (.inr (.inl rfl)) _).alloc _
  refine h5.tl.tl.fr hF (fun k ⟨f, hf, hk⟩ e => ?_)
  rcases e with e | e
  ·exact a1 f (List.mem_cons_of_mem _ hf) k (by unfold blk; exact e) hk
  ·exact a2 f hf k (by unfold blk; exact e) hk
end
end
section
open Go.RowKit Go.MapKept
theorem kstar_get {f : Fa} {G L : List Fa} (h : At (star G) L) (hf : f ∈ G) : Vw L f.P := fun w hw => by
 have h1 := hw.at h
 unfold star at h1
 exact h1.mem hf
theorem kstar_pull {A B K : List Fa} {f : Fa} : Ent_ (star (A ++ f :: B) :: K) (f :: star (A ++ B) :: K) := fun w hw => by
 have h1 := star_out w hw
 rw [List.append_assoc, List.cons_append] at h1
 have h2 := (pick_mid A).out w h1
 rw [← List.append_assoc] at h2
 exact Ent_.tail star_in (fun k hk => by
   rcases foot_cons.1 hk with e | e
   · unfold star at e
     obtain ⟨y, hy, hk⟩ := e
     exact ⟨y, List.mem_append_left _ hy, hk⟩
   · obtain ⟨y, hy, hk⟩ := e
     exact ⟨y, List.mem_append_right _ hy, hk⟩) w h2
theorem kstar_push {A B K : List Fa} {f : Fa} : Ent_ (f :: star (A ++ B) :: K) (star (A ++ f :: B) :: K) := fun w hw => by
 refine star_in w ?_; rw [List.append_assoc, List.cons_append]; refine (pick_mid A).back w ?_; rw [← List.append_assoc]
 exact Ent_.tail star_out (fun k hk => by
   obtain ⟨y, hy, hk⟩ := hk
   rcases List.mem_append.1 hy with e | e
   · exact foot_cons.2 (.inl (by unfold star; exact ⟨y, e, hk⟩))
   · exact foot_cons.2 (.inr ⟨y, e, hk⟩)) w hw
theorem own_PK {e : TypeId} {size n c : Nat} {A : Option Addr} {xs : List Value} {w : World} (h : (own e size A n c xs).P w) : w.ownsRow 0 e size (.slice A n c) n xs := by
 unfold own at h
 exact h
theorem se_subK {Q : Exit → Act → World → Prop} {e : Exit} {n : Nat} {l : Env} {L L' : List Fa} (hs : Sub L L') (h : SE Q e n l L') : SE Q e n l L := se_ent (fun _ hw => hw.sub hs) h
theorem sub_star0 {L L' : List Fa} (h : Sub L L') : Sub L (star [] :: L') :=
 .free (fun w => by unfold star; exact (Sep.start w).sub Sub.nil) (fun j hj => by unfold star at hj; exact foot_nil hj) h
theorem sub_splitK {α : Type} {us fs : List α} (h1 : us.Nodup) (h2 : fs.Nodup) (hs : ∀ u ∈ us, u ∈ fs) : ∃ z, (us ++ z).Perm fs := by
 classical
 refine ⟨fs.filter (fun x => decide (x ∉ us)), (List.perm_ext_iff_of_nodup (List.nodup_append.2 ⟨h1, h2.filter _, fun a ha b hb e => ?_⟩) h2).2 fun x => ?_⟩
 ·subst e
  simp only [List.mem_filter, decide_eq_true_eq] at hb
  exact hb.2 ha
 ·simp only [List.mem_append, List.mem_filter, decide_eq_true_eq]
  refine ⟨fun h => h.elim (hs x) (·.1), fun h => ?_⟩
  by_cases hx : x ∈ us
  ·exact .inl hx
  ·exact .inr ⟨h, hx⟩
structure MK (α : Type) where
 key : α → Value
 val : α → Value
 bn : α → Nat
 fa : α → Fa
def MK.ent {α : Type} (M : MK α) (a : α) : MapEntry := ⟨M.key a, M.val a, M.bn a⟩
abbrev kM {α : Type} (M : MK α) (m : Nat) (d : TypeDesc) (fs : List α) (ck : Nat) : Fa := mp m d (fs.map M.ent) ck
abbrev kS {α : Type} (M : MK α) (fs : List α) : Fa := star (fs.map M.fa)
section
variable {P : Program} {ops : Array Oper} {Q : Exit → Act → World → Prop} {n : Nat} {l : Env} {L L' : List Fa} {rest : List Oper} {ty t kt e : TypeId} {pos : String} {after : Array Edge} {x y u : Operand} {m ck : Nat} {d : TypeDesc} {α : Type} {M : MK α} {X Y fs : List α} {f f' : α} {K : List Fa} {k v : Value}
theorem kget (h : f ∈ fs) : MGet (fs.map M.ent) (M.key f) (M.val f) := ⟨M.ent f, List.mem_map.2 ⟨f, h, rfl⟩, rfl, rfl⟩
theorem kno (h : ∀ f ∈ fs, M.key f ≠ k) : MNo (fs.map M.ent) k := fun e he hk => by
 obtain ⟨f, hf, rfl⟩ := List.mem_map.1 he
 exact h f hf hk
theorem kM_split : kM M m d (X ++ f :: Y) ck = mp m d (X.map M.ent ++ M.ent f :: Y.map M.ent) ck := by
 show mp m d ((X ++ f :: Y).map M.ent) ck = _
 rw [List.map_append, List.map_cons]
theorem sl_kput (hx : ev l x = some (.map (some m))) (hy : ev l y = some (M.key f)) (hu : ev l u = some (M.val f')) (hs : M.key f' = M.key f) (hb : M.bn f' = M.bn f) (hp : Pick (kM M m d (X ++ f :: Y) ck) L L') (ht : P.underlying t = some (.map kt e)) (hd : P.underlying kt = some d) (hk : IsKey d (M.key f))
  (h : SL P ops Q rest n l (kM M m d (X ++ f' :: Y) ck :: L')) : SL P ops Q (⟨none, .mapUpdate t x y u, ty, pos, after, none⟩ :: rest) n l L := by
 rw [kM_split] at hp h
 refine sl_mapPut (me := M.ent f) hx hy hu hp ht hd hk ?_
 have he : (⟨(M.ent f).key, M.val f', (M.ent f).born⟩ : MapEntry) = M.ent f' := by
  unfold MK.ent
  rw [hs, hb]
 rw [he]; exact h
theorem sl_knew (hx : ev l x = some (.map (some m))) (hy : ev l y = some k) (hu : ev l u = some (M.val f')) (hs : M.key f' = k) (hb : M.bn f' = ck) (hn : ∀ f ∈ fs, M.key f ≠ k) (hp : Pick (kM M m d fs ck) L L') (ht : P.underlying t = some (.map kt e)) (hd : P.underlying kt = some d) (hk : IsKey d k)
  (h : SL P ops Q rest n l (kM M m d (fs ++ [f']) (ck + 1) :: L')) : SL P ops Q (⟨none, .mapUpdate t x y u, ty, pos, after, none⟩ :: rest) n l L := by
 refine sl_mapNew hx hy hu hp ht hd hk (kno hn) ?_
 have he : fs.map M.ent ++ [(⟨k, M.val f', ck⟩ : MapEntry)] = (fs ++ [f']).map M.ent := by
  rw [List.map_append]
  unfold MK.ent
  simp [hs, hb]
 rw [he]; exact h
theorem ks_swap : Ent_ (M.fa f' :: kS M (X ++ f :: Y) :: K) (kS M (X ++ f' :: Y) :: K) := fun w hw => by
 have e1 : kS M (X ++ f :: Y) = star (X.map M.fa ++ M.fa f :: Y.map M.fa) := by
  show star _ = _
  rw [List.map_append, List.map_cons]
 have e2 : kS M (X ++ f' :: Y) = star (X.map M.fa ++ M.fa f' :: Y.map M.fa) := by
  show star _ = _
  rw [List.map_append, List.map_cons]
 rw [e1] at hw
 rw [e2]
 have h1 : Sep w (star (X.map M.fa ++ M.fa f :: Y.map M.fa) :: M.fa f' :: K) := hw.sub (Sub.cons (Pick.there Pick.here) (Sub.cons Pick.here Sub.refl))
 have h2 := kstar_pull w h1
 have h3 : Sep w (M.fa f' :: star (X.map M.fa ++ Y.map M.fa) :: K) := h2.sub (Sub.cons (Pick.there (Pick.there Pick.here)) (Sub.skip (Sub.cons Pick.here Sub.refl)))
 exact kstar_push w h3
theorem ks_new : Ent_ (M.fa f' :: kS M fs :: K) (kS M (fs ++ [f']) :: K) := fun w hw => by
 have e2 : kS M (fs ++ [f']) = star (fs.map M.fa ++ M.fa f' :: []) := by
  show star _ = _
  rw [List.map_append, List.map_cons, List.map_nil]
 rw [e2]; refine kstar_push w ?_; rw [List.append_nil]; exact hw
theorem ks_same (h : M.fa f' = M.fa f) : kS M (X ++ f' :: Y) = kS M (X ++ f :: Y) := by
 show star _ = star _
 rw [List.map_append, List.map_append, List.map_cons, List.map_cons, h]
theorem ks_get (h : At (kS M fs) L) (hf : f ∈ fs) : Vw L (M.fa f).P := kstar_get h (List.mem_map.2 ⟨f, hf, rfl⟩)
theorem kM_nodup (h : At (kM M m d fs ck) L) : ∀ w, Sep w L → fs.Nodup ∧ fs.Pairwise (fun a b => M.key a ≠ M.key b) := fun w hw => by
 have h1 : MapP m d (fs.map M.ent) ck w := mp_P ▸ hw.at h
 have h3 := ((stamped_iff _ _).1 h1.2.1).2.2
 rw [List.toList_toArray, List.pairwise_map] at h3
 exact ⟨h3.imp (fun {a b} hab e => hab (congrArg M.key e)), h3⟩
theorem kent_inj {a b : α} (hn : fs.Pairwise (fun a b => M.key a ≠ M.key b)) (ha : a ∈ fs) (hb : b ∈ fs) (h : M.ent a = M.ent b) : a = b :=
 pw_one (f := M.key) hn ha hb (congrArg MapEntry.key h)
end
end
section
open Go.RowKit Go.MapKept Go.WideMaps
section
variable {P : Program} {ops : Array Oper} {Q : Exit → Act → World → Prop} {n : Nat} {l : Env} {L L' : List Fa} {rest : List Oper} {ty t kt e : TypeId} {pos : String} {after : Array Edge} {x y : Operand} {g ck : Nat} {d : TypeDesc} {A B : List MapEntry}
theorem sl_mapDelK {me : MapEntry} (hx : ev l x = some (.map (some g))) (hy : ev l y = some me.key) (hp : Pick (mp g d (A ++ me :: B) ck) L L') (ht : P.underlying t = some (.map kt e)) (hk : KLaw P kt d me.key)
  (h : SL P ops Q rest n l (mp g d (A ++ B) ck :: L')) : SL P ops Q (⟨none, .call { callee := .builtin .delete, args := #[x, y], argTypes := #[t, kt] }, ty, pos, after, none⟩ :: rest) n l L := sl_of fun w hw => by
 have h2 := hw.pick hp
 have hm : MapP g d (A ++ me :: B) ck w := mp_P ▸ h2.hd
 have hin : me ∈ A ++ me :: B := by simp
 obtain ⟨j, e', h1, h3, h4, h5⟩ := find_get hm hk ⟨me, hin, rfl, rfl⟩ w
 have h6 : e' = me := key_one hm.2.1 (List.mem_of_getElem? h3) hin h4
 subst h6
 have hj : j = A.length := by
  have hn := hm.2.1.2.1
  rw [List.toList_toArray] at hn
  obtain ⟨hl, h7⟩ := List.getElem?_eq_some_iff.1 h3
  refine (List.getElem?_inj (l := (A ++ e' :: B).map (·.born)) (by simpa using hl) hn).1 ?_; rw [List.getElem?_map, List.getElem?_map, h3]
  simp
 subst hj
 have hers : (A ++ e' :: B).toArray.eraseIdxIfInBounds A.length = (A ++ B).toArray := by
  apply Array.ext'
  rw [Array.eraseIdxIfInBounds, dif_pos (by simp), Array.toList_eraseIdx]; rw [List.eraseIdx_append_of_length_le (Nat.le_refl _), Nat.sub_self]
  rfl
 have hst := stamped_erase hm.2.1 A.length
 rw [hers] at hst
 refine wl_run0 (v := .tuple #[]) (w' := { w with heap := w.heap.setIfInBounds g (.map (A ++ B).toArray ck) }) ?_ (h.to ?_)
 ·unfold Ru
  intro a _ _ _ _ hs
  simp only [execOp, resolve, List.map_toArray, List.map_cons, List.map_nil, hs.ev hx, hs.ev hy]
  have hrun : (Builtin.delete_ #[t, kt] ty #[.map (some g), e'.key]).run P w = .ok (.tuple #[]) { w with heap := w.heap.setIfInBounds g (.map (A ++ B).toArray ck) } := by
   rw [← hers]
   simp [Builtin.delete_, run_underlying ht, MapKept.run_getObj_map hm.1, hk.chk, h1, run_setObj_map _ hm.1, Result.andThen]
  simp only [invoke, builtin, Sem.run_bind, Sem.run_pure, Result.andThen_ok, hrun]
 ·refine h2.step setAt_fr (fun j _ e => by rw [mp_F]; exact e) ?_ (fun j hj => .inl (by rw [mp_F] at hj ⊢; exact hj))
  rw [mp_P]
  refine ⟨by simp [heap_lt hm.1], hst, fun x hx => ?_⟩
  rcases List.mem_append.1 hx with e | e
  ·exact hm.2.2 x (List.mem_append_left _ e)
  ·exact hm.2.2 x (List.mem_append_right _ (List.mem_cons_of_mem _ e))
end
theorem mapM_ex {β : Type} {f : Nat → Option β} : ∀ l : List Nat, (∀ i ∈ l, ∃ y, f i = some y) → ∃ r, l.mapM f = some r
 | [], _ => ⟨[], rfl⟩
 | i :: l, h => by
  obtain ⟨y, hy⟩ := h i (List.mem_cons_self ..)
  obtain ⟨r, hr⟩ := mapM_ex l (fun j hj => h j (List.mem_cons_of_mem _ hj))
  exact ⟨y :: r, by simp [List.mapM_cons, hy, hr]⟩
theorem idKey : ArrKey Tryz.prog 47 5 16 := ⟨Tryz.underlying47, by kernel_rfl, by kernel_rfl, by kernel_rfl⟩
theorem list16m {α : Type} {cs : List α} (h : cs.length = 16) : ∃ a0 a1 a2 a3 a4 a5 a6 a7 a8 a9 a10 a11 a12 a13 a14 a15, cs = [a0, a1, a2, a3, a4, a5, a6, a7, a8, a9, a10, a11, a12, a13, a14, a15] := by
 match cs, h with
 | [a0, a1, a2, a3, a4, a5, a6, a7, a8, a9, a10, a11, a12, a13, a14, a15], _ => exact ⟨a0, a1, a2, a3, a4, a5, a6, a7, a8, a9, a10, a11, a12, a13, a14, a15, rfl⟩
theorem id_formed {l : List Int} (h : l.length = 16) : (Value.agg (bytes l).toArray).formed Tryz.prog 47 = true := by
 obtain ⟨a0, a1, a2, a3, a4, a5, a6, a7, a8, a9, a10, a11, a12, a13, a14, a15, rfl⟩ := list16m h
 kernel_rfl
theorem key_id {l : List Int} (h : l.length = 16) (hb : IsBytes l) : ∃ x, keyOf Tryz.prog 47 (.agg (bytes l).toArray) = some x := by
 have hl : ∃ r, Tryz.prog.keyLits (Tryz.prog.types.size + 1) 47 (Value.agg (bytes l).toArray).cells.toList = some r := by
  obtain ⟨m, hm⟩ : ∃ m, Tryz.prog.types.size = m + 1 := ⟨Tryz.prog.types.size - 1, by kernel_rfl⟩
  rw [hm]
  have hcs : (Value.agg (bytes l).toArray).cells.toList = bytes l := by simp [Value.cells]
  rw [hcs, Program.keyLits.eq_def]; dsimp only; rw [Tryz.underlying47]; dsimp only; rw [if_pos (by rw [bytes_length, h]; kernel_rfl)]
  obtain ⟨r, hr⟩ := mapM_ex (f := fun i => Tryz.prog.keyLits (m + 1) 5 (((bytes l).drop (i * Tryz.prog.cellsOf 5)).take (Tryz.prog.cellsOf 5))) (List.range 16) (fun i hi => by
    have hi : i < 16 := List.mem_range.1 hi
    rw [idKey.one, Nat.mul_one]
    have hlt : i < l.length := by omega
    have hd : ((bytes l).drop i).take 1 = [.int .u8 l[i]] := by
      rw [List.drop_eq_getElem_cons (by rw [bytes_length]; exact hlt), List.take_succ_cons, List.take_zero]
      simp [bytes]
    rw [hd, Program.keyLits.eq_def]
    dsimp only
    rw [Tryz.underlying5]
    have hw : (Lit.int .u8 l[i]).wf = true := by
      have := hb l[i] (List.getElem_mem hlt)
      simp [Lit.wf, IntKind.min, IntKind.max, IntKind.signed, IntKind.bits]
      omega
    exact ⟨_, by dsimp only; rw [if_pos ⟨rfl, hw⟩]⟩)
  exact ⟨_, by rw [hr]; rfl⟩
 obtain ⟨r, hr⟩ := hl
 refine ⟨_, (?_ : keyOf Tryz.prog 47 (.agg (bytes l).toArray) = some (.string (keyBytes r)))⟩
 unfold keyOf
 rw [Tryz.underlying47]; dsimp only; rw [if_pos (by rw [id_formed h, Bool.and_true]; kernel_rfl), hr]
 rfl
theorem KLaw.id {l : List Int} (h : l.length = 16) (hb : IsBytes l) : KLaw Tryz.prog 47 (.array 16 5) (.agg (bytes l).toArray) := by
 obtain ⟨x, hx⟩ := key_id h hb
 refine ⟨.inr ⟨⟨_, rfl⟩, l, rfl, hb, h⟩, fun em w => idKey.law.check w em hx, fun es w hes => ?_, fun w => idKey.law.stays w hx⟩
 have hall : ∀ e ∈ es, ∃ l, keyOf Tryz.prog 47 e.key = some l := fun e he => by
  rcases hes e he with h4 | ⟨_, l', h5, h6, h7⟩
  ·exact absurd h4 (by simp [IsKey])
  ·rw [h5]; exact key_id h7 h6
 rcases idKey.law.find w hx es hall with ⟨h1, h2⟩ | ⟨j, e, h1, h2, h3⟩
 ·exact .inr ⟨h1, h2⟩
 ·exact .inl ⟨j, e, h1, h2, h3⟩
end
section
open Go.RowKit
section
namespace pRq1
theorem nthx_ (h : φ := by first | exact hnx | exact hny) : φ := h
end pRq1
open pRq1
attribute [local irreducible] Go.Calls Go.Exit.then Go.Exit.inBlock Go.bodyPost Go.Code.wp Go.wpList
def cmpI : List Int → List Int → Int
 | [], [] => 0
 | [], _ :: _ => -1
 | _ :: _, [] => 1
 | x :: xs, y :: ys => if x < y then -1 else if y < x then 1 else cmpI xs ys
theorem run_loadBytes {P : Program} {w : World} : ∀ (xs : List Int) (a : Addr) (acc : ByteArray), IsBytes xs → (∀ j u, (bytes xs)[j]? = some u → w.cell? (a.add j) = some u) →
  (Extern.Bytes.loadBytes a xs.length acc).run P w = .ok ⟨acc.data ++ (u8s xs).toArray⟩ w
 | [], a, acc, _, _ => by simp [Extern.Bytes.loadBytes, u8s]
 | x :: xs, a, acc, hb, hc => by
  have h0 : w.cell? a = some (.int .u8 x) := by
   have := hc 0 (.int .u8 x) rfl
   simpa [Addr.add] using this
  have ih := run_loadBytes (P := P) (w := w) xs (a.add 1) (acc.push x.toNat.toUInt8) (fun z hz => hb z (List.mem_cons_of_mem _ hz)) (fun j u hu => by
    rw [add_twice, Nat.add_comm]
    exact hc (j + 1) u (by simpa [bytes] using hu))
  rw [List.length_cons, Extern.Bytes.loadBytes, Sem.run_bind]
  simp only [load, Sem.run, h0, Result.andThen_ok]
  rw [ih]
  congr 2
  simp [u8s, ByteArray.push]
theorem run_bytesOf {P : Program} {w : World} {A : Option Addr} {n c : Nat} {xs : List Int} (hr : Reads w 1 A n (bytes xs)) (hb : IsBytes xs) : (Extern.Bytes.bytesOf (.slice A n c)).run P w = .ok ⟨(u8s xs).toArray⟩ w := by
 have hl : xs.length = n := by have := hr.1; simpa [bytes] using this
 cases A with
 | none =>
  have : n = 0 := by
   rcases Nat.eq_zero_or_pos n with h | h
   ·exact h
   ·obtain ⟨_, h2, _⟩ := hr.2 h
    cases h2
  subst this
  obtain rfl := List.eq_nil_of_length_eq_zero hl
  rfl
 | some ad =>
  subst hl
  have hc : ∀ j u, (bytes xs)[j]? = some u → w.cell? (ad.add j) = some u := by
   intro j u hu
   rcases Nat.eq_zero_or_pos xs.length with h | h
   ·obtain rfl := List.eq_nil_of_length_eq_zero h
    simp [bytes] at hu
   ·obtain ⟨ad', h1, h2⟩ := hr.2 h
    injection h1 with h1
    subst h1; exact h2 j u hu
  have h := run_loadBytes (P := P) (w := w) xs ad .empty hb hc
  show (Extern.Bytes.loadBytes ad xs.length .empty).run P w = _
  rw [h]
  simp [ByteArray.empty, ByteArray.emptyWithCapacity]
  rfl
theorem cmp_u8s : ∀ {xs ys : List Int}, IsBytes xs → IsBytes ys → Lib.compareBytes (u8s xs) (u8s ys) = cmpI xs ys
 | [], [], _, _ => rfl
 | [], _ :: _, _, _ => rfl
 | _ :: _, [], _, _ => rfl
 | x :: xs, y :: ys, h, h' => by
  have ih := cmp_u8s (xs := xs) (ys := ys) (fun z hz => h z (List.mem_cons_of_mem _ hz)) (fun z hz => h' z (List.mem_cons_of_mem _ hz))
  obtain ⟨a0, a1⟩ := h x (List.mem_cons_self ..)
  obtain ⟨b0, b1⟩ := h' y (List.mem_cons_self ..)
  show Lib.compareBytes (UInt8.ofNat x.toNat :: u8s xs) (UInt8.ofNat y.toNat :: u8s ys) = _
  have e1 : (UInt8.ofNat x.toNat < UInt8.ofNat y.toNat) ↔ x < y := by
   rw [UInt8.lt_iff_toNat_lt, UInt8.toNat_ofNat', UInt8.toNat_ofNat']; omega
  have e2 : (UInt8.ofNat y.toNat < UInt8.ofNat x.toNat) ↔ y < x := by
   rw [UInt8.lt_iff_toNat_lt, UInt8.toNat_ofNat', UInt8.toNat_ofNat']; omega
  rw [Lib.compareBytes, cmpI, ih]
  simp only [e1, e2]
theorem cmp_row (args : Array Value) (w : World) : (callFunc 175 args).run Tryz.prog w = (Extern.BytealgCompare.compare args >>= fun v => pure (Next.value v)).run Tryz.prog w := by kernel_rfl
theorem run_cmp {w : World} {A B : Option Addr} {n c m d : Nat} {xs ys : List Int} (hx : Reads w 1 A n (bytes xs)) (hxb : IsBytes xs) (hy : Reads w 1 B m (bytes ys)) (hyb : IsBytes ys) :
  (callFunc 175 #[.slice A n c, .slice B m d]).run Tryz.prog w = .ok (.value (.int .i64 (cmpI xs ys))) w := by
 rw [cmp_row]
 show Sem.run Tryz.prog ((do pure (goInt (Extern.BytealgCompare.cmp (← Extern.Bytes.bytesOf (.slice A n c)) (← Extern.Bytes.bytesOf (.slice B m d)))) : Sem Value) >>= fun v => pure (Next.value v)) w = _
 rw [Sem.run_bind, Sem.run_bind, run_bytesOf hx hxb, Result.andThen_ok, Sem.run_bind, run_bytesOf hy hyb, Result.andThen_ok, Lib.cmp_eq, cmp_u8s hxb hyb]
 rfl
theorem BytesCompare_ok {K : List Fa} {A B : Option Addr} {n c m d : Nat} {xs ys : List Int} (hx : Vw K (fun w => Reads w 1 A n (bytes xs))) (hxb : IsBytes xs) (hy : Vw K (fun w => Reads w 1 B m (bytes ys))) (hyb : IsBytes ys) :
  Fn Tryz.prog 145 #[.slice A n c, .slice B m d] K (Ret (fun _ : Unit => True) (fun _ => .int .i64 (cmpI xs ys)) (fun _ => K)) := by
 refine fe_ Tryz.func145 Tryz.ntmps145 [(0, .slice A n c), (1, .slice B m d)] ?_; refine go_ ?_; refine sl_pu (pu_ext (cap := []) rfl rfl (fun W hW => run_cmp (hx W hW) hxb (hy W hW) hyb)) rfl ?_; refine go_ ?_; exact se_ret1 () trivial rfl rfl Sub.refl
theorem Compare_ok {K : List Fa} (a b : Id) :
  Fn Tryz.prog 116 #[a.v, b.v] K (Ret (fun _ : Unit => True) (fun _ => .int .i64 (cmpI a.l b.l)) (fun _ => K)) := by
 refine fe_ Tryz.func116 Tryz.ntmps116 [(0, a.v), (1, b.v)] ?_; refine go_ ?_; refine bx_ ?_; intro ga; refine bx_ ?_; intro gb; refine go_ ?_; refine sd_drawn (fun _ => True) (fun _ => true) (by kernel_rfl) 4 rfl ?_; refine sd_take 0 rfl (by kernel_rfl) nop_ (pu_slice_arr rfl rfl rfl) rfl (fun _ _ => trivial) ?_; refine sd_take 1 rfl (by kernel_rfl) nop_ (pu_slice_arr rfl rfl rfl) rfl (fun _ _ => trivial) ?_; refine sd_call 2 (by kernel_rfl) rfl rfl rfl (by kernel_rfl) rfl Sub.refl (BytesCompare_ok (Vw.of_blk at_ (by rw [bytes_length, a.len])) a.ok (Vw.of_blk at_ (by rw [bytes_length, b.len])) b.ok) (fun _ _ _ _ => trivial) ?_; rintro _ -; refine sd_pu 3 (by kernel_rfl) rfl (pu_assign rfl) rfl (fun _ _ _ => trivial) ?_; refine sd_done (by kernel_rfl) ?_; refine go_ ?_; exact r1_ ()
def lessI (a b : List Int) : Bool := decide (cmpI a b < 0)
end
attribute [local irreducible] Go.Calls Go.Exit.then Go.Exit.inBlock Go.bodyPost Go.Code.wp Go.wpList
section
theorem cmpI_self : ∀ (a : List Int), cmpI a a = 0
 | [] => rfl
 | x :: a => by simp [cmpI, cmpI_self a]
theorem cmpI_swap : ∀ (a b : List Int), cmpI b a = -cmpI a b
 | [], [] => rfl
 | [], _ :: _ => rfl
 | _ :: _, [] => rfl
 | x :: a, y :: b => by
  have ih := cmpI_swap a b
  simp only [cmpI]
  split <;> split <;> (try omega)
theorem cmpI_eq : ∀ {a b : List Int}, a.length = b.length → cmpI a b = 0 → a = b
 | [], [], _, _ => rfl
 | [], _ :: _, h, _ => by simp at h
 | _ :: _, [], h, _ => by simp at h
 | x :: a, y :: b, h, hc => by
  simp only [cmpI] at hc
  split at hc
  ·omega
  ·split at hc
   ·omega
   ·rw [cmpI_eq (by simpa using h) hc, show x = y from by omega]
theorem cmpI_trans : ∀ {a b c : List Int}, cmpI a b < 0 → cmpI b c < 0 → cmpI a c < 0
 | [], [], _, h, _ => by simp [cmpI] at h
 | [], _ :: _, [], _, h => by simp [cmpI] at h
 | [], _ :: _, _ :: _, _, _ => by simp [cmpI]
 | _ :: _, [], _, h, _ => by simp [cmpI] at h
 | x :: a, y :: b, [], _, h => by simp [cmpI] at h
 | x :: a, y :: b, z :: c, h, h' => by
  have ih := @cmpI_trans a b c
  simp only [cmpI] at h h' ⊢
  split at h <;> split at h' <;> (try split at h) <;> (try split at h') <;> (try omega)
  all_goals first
   | (rw [if_pos (by omega)]; omega)
   | (rw [if_neg (by omega), if_neg (by omega)]; exact ih h h')
theorem cmpI_vals : ∀ (a b : List Int), cmpI a b = -1 ∨ cmpI a b = 0 ∨ cmpI a b = 1
 | [], [] => by simp [cmpI]
 | [], _ :: _ => by simp [cmpI]
 | _ :: _, [] => by simp [cmpI]
 | x :: a, y :: b => by
  simp only [cmpI]
  split
  ·simp
  ·split
   ·simp
   ·exact cmpI_vals a b
theorem Id.eq_iff (a b : Id) : cmpI a.l b.l = 0 ↔ a = b := by
 constructor
 ·intro h; exact Id.ext_ (cmpI_eq (by rw [a.len, b.len]) h)
 ·rintro rfl; exact cmpI_self _
abbrev ltS (a b : Seen) : Prop := cmpI a.id.l b.id.l < 0
def Srt (ss : List Seen) : Prop := ss.Pairwise ltS
def posI (ss : List Seen) (id : Id) : Nat := (ss.takeWhile fun s => decide (cmpI s.id.l id.l < 0)).length
def hasI (ss : List Seen) (id : Id) : Bool := ss.any fun s => decide (cmpI s.id.l id.l = 0)
theorem posI_eq : ∀ {ss : List Seen} {id : Id} {i : Nat}, i ≤ ss.length → (∀ k s, k < i → ss[k]? = some s → cmpI s.id.l id.l < 0) → (∀ k s, i ≤ k → ss[k]? = some s → 0 ≤ cmpI s.id.l id.l) → posI ss id = i
 | [], id, i, hi, _, _ => by simp at hi; subst hi; rfl
 | s :: r, id, 0, _, _, h2 => by
  have := h2 0 s (Nat.le_refl _) rfl
  unfold posI
  rw [List.takeWhile_cons_of_neg (by simp; omega)]
  rfl
 | s :: r, id, i + 1, hi, h1, h2 => by
  have h0 := h1 0 s (by omega) rfl
  have ih := posI_eq (ss := r) (id := id) (i := i) (by simpa using hi) (fun k s hk hs => h1 (k + 1) s (by omega) hs) (fun k s hk hs => h2 (k + 1) s (by omega) hs)
  unfold posI at ih ⊢
  rw [List.takeWhile_cons_of_pos (by simpa using h0), List.length_cons, ih]
theorem Srt.lt {ss : List Seen} (h : Srt ss) {i j : Nat} {a b : Seen} (hij : i < j) (ha : ss[i]? = some a) (hb : ss[j]? = some b) : cmpI a.id.l b.id.l < 0 := by
 obtain ⟨h1, rfl⟩ := List.getElem?_eq_some_iff.1 ha
 obtain ⟨h2, rfl⟩ := List.getElem?_eq_some_iff.1 hb
 exact List.pairwise_iff_getElem.1 h i j h1 h2 hij
theorem hasI_at {ss : List Seen} (h : Srt ss) {id : Id} {i : Nat} (h1 : ∀ k s, k < i → ss[k]? = some s → cmpI s.id.l id.l < 0) (h2 : ∀ k s, i ≤ k → ss[k]? = some s → 0 ≤ cmpI s.id.l id.l) :
  hasI ss id = match ss[i]? with | some s => decide (cmpI s.id.l id.l = 0) | none => false := by
 cases hs : ss[i]? with
 | none =>
  unfold hasI
  rw [List.any_eq_false]; intro s hm
  obtain ⟨k, hk⟩ := List.getElem?_of_mem hm
  have : k < i := by
   have h3 := (List.getElem?_eq_some_iff.1 hk).1
   have h4 := List.getElem?_eq_none_iff.1 hs
   omega
  have := h1 k s this hk
  simp
  omega
 | some s =>
  by_cases he : cmpI s.id.l id.l = 0
  ·simp only [he, decide_true]
   unfold hasI
   rw [List.any_eq_true]; exact ⟨s, List.mem_of_getElem? hs, by simpa using he⟩
  ·simp only [he, decide_false]
   unfold hasI
   rw [List.any_eq_false]; intro u hm
   obtain ⟨k, hk⟩ := List.getElem?_of_mem hm
   rcases Nat.lt_trichotomy k i with hki | hki | hki
   ·have := h1 k u hki hk
    simp
    omega
   ·subst hki
    rw [hs] at hk
    injection hk with hk
    subst hk
    simpa using he
   ·have h3 := h.lt hki hs hk
    have h4 := h2 i s (Nat.le_refl _) hs
    have h5 : cmpI id.l u.id.l < 0 := by
     have h6 : cmpI id.l s.id.l < 0 := by
      have := cmpI_swap s.id.l id.l
      omega
     exact cmpI_trans h6 h3
    have := cmpI_swap u.id.l id.l
    simp
    omega
namespace pRq2
theorem nthx_ (h : φ := by first | exact Seen.nt _ | exact Seen.nc _) : φ := h
theorem midx_ (h : φ := by first | exact Seen.mid _) : φ := h
theorem szx_ (h : φ := by (simp only [Seen.len, bytes_length, Id.len]; rfl; first | done | fail)) : φ := h
end pRq2
open pRq2
theorem find1_ok {K : List Fa} (s : Seen) (id : Id) :
  Fn Tryz.prog 130 #[s.v, id.v] K (Ret (fun _ : Unit => True) (fun _ => .int .i64 (cmpI s.id.l id.l)) (fun _ => K)) := by
 refine fe_ Tryz.func130 Tryz.ntmps130 [(0, s.v), (1, id.v)] ?_; refine go_ ?_; refine bx_ ?_; intro ga; refine bx_ ?_; intro gb; refine go_ ?_; refine slc_ rfl rfl sub_ (Compare_ok s.id id) ?_; rintro _ -; refine go_ ?_; exact r1_ ()
structure Bs where
 i : Nat
 j : Nat
theorem search_ok {K : List Fa} {A : Option Addr} {c : Nat} {ss : List Seen} (id : Id) (hr : Vw K (fun w => Reads w 18 A ss.length (rows Seen.cells ss))) (hs : Srt ss) (hn : ss.length ≤ 4611686018427387904) :
  Fn Tryz.prog 129 #[.slice A ss.length c, id.v, .func (.func 130) #[] #[]] K (Ret (fun _ : Unit => True) (fun _ => .tuple #[.int .i64 (posI ss id), .bool (hasI ss id)]) (fun _ => K)) := by
 refine fe_ Tryz.func129 Tryz.ntmps129 [(0, .slice A ss.length c), (1, id.v), (2, .func (.func 130) #[] #[])] ?_; refine go_ ?_; refine bx_ ?_; intro gb; refine go_ ?_
 refine sc_for (fun p : Bs => [(0, .slice A ss.length c), (2, .func (.func 130) #[] #[]), (4, .pointer (some ⟨gb, 0, none⟩)), (8, .int .i64 ss.length), (9, .int .i64 p.i), (10, .int .i64 p.j)]) (fun _ => blk gb 47 (bytes id.l) :: K)
  (fun p => p.i ≤ p.j ∧ p.j ≤ ss.length ∧ (∀ k s, k < p.i → ss[k]? = some s → cmpI s.id.l id.l < 0) ∧ (∀ k s, p.j ≤ k → ss[k]? = some s → 0 ≤ cmpI s.id.l id.l)) (fun p => p.j - p.i) ⟨0, ss.length⟩ has_ sub_
  ⟨Nat.zero_le _, Nat.le_refl _, fun k s hk => absurd hk (by simp), fun k s hk h => by have := (List.getElem?_eq_some_iff.1 h).1; simp at hk; omega⟩ ?_
 rintro ⟨i, j⟩ ⟨hij, hj, h1, h2⟩
 dsimp only at hij hj h1 h2 ⊢
 have hrL : Vw (blk gb 47 (bytes id.l) :: K) (fun w => Reads w 18 A ss.length (rows Seen.cells ss)) := hr.mono sub_
 by_cases hlt : i < j
 ·refine sc_know (vw_form hrL (by omega)) ?_; rintro ⟨ad, rfl⟩; refine go_ ?_
  obtain ⟨h, hh⟩ : ∃ h : Nat, ((i : Int) + j) / 2 = (h : Int) := ⟨((i : Int) + j).toNat / 2, by omega⟩
  rw [hh]
  have hhi : i ≤ h := by omega
  have hhj : h < j := by omega
  obtain ⟨s, hs'⟩ : ∃ s, ss[h]? = some s := ⟨_, List.getElem?_eq_getElem (by omega)⟩
  refine sq_region (by kernel_rfl) (by kernel_rfl) ?_
  repeat refine rq_ ?_
  refine wq_pu (pu_ldrs hrL (by omega) rfl (rows_mid Seen.len hs') rfl rfl sz_) rfl ?_
  repeat refine rq_ ?_
  refine WQ_call rfl rfl (by kernel_rfl) rfl (find1_ok s id) ?_
  by_cases hc : cmpI s.id.l id.l < 0
  ·repeat refine rq_ ?_
   refine sq_end ?_; refine go_ ?_
   refine se_round ⟨h + 1, j⟩ has_ sub_ ⟨hhj, hj, fun k u hk hu => ?_, h2⟩ (by dsimp only; omega)
   by_cases hkh : k = h
   ·subst hkh
    rw [hs'] at hu
    injection hu with hu
    subst hu; exact hc
   ·exact cmpI_trans (hs.lt (show k < h from by dsimp only at hk; omega) hu hs') hc
  ·repeat refine rq_ ?_
   refine sq_end ?_; refine go_ ?_
   refine se_round ⟨i, h⟩ has_ sub_ ⟨hhi, by dsimp only; omega, h1, fun k u hk hu => ?_⟩ (by dsimp only; omega)
   by_cases hkh : k = h
   ·subst hkh
    rw [hs'] at hu
    injection hu with hu
    subst hu; omega
   ·have h3 := hs.lt (show h < k from by dsimp only at hk; omega) hs' hu
    by_cases h4 : cmpI u.id.l id.l < 0
    ·exact absurd (cmpI_trans h3 h4) hc
    ·omega
 ·obtain rfl : i = j := by omega
  have hp : posI ss id = i := posI_eq hj h1 h2
  have hh := hasI_at hs h1 h2
  refine go_ ?_
  by_cases hin : i < ss.length
  ·obtain ⟨s, hs'⟩ : ∃ s, ss[i]? = some s := ⟨_, List.getElem?_eq_getElem hin⟩
   refine sc_know (vw_form hrL (by omega)) ?_; rintro ⟨ad, rfl⟩
   rw [hs'] at hh
   refine sq_region (by kernel_rfl) (by kernel_rfl) ?_
   repeat refine rq_ ?_
   refine wq_pu (pu_ldrs hrL (by omega) rfl (rows_mid Seen.len hs') rfl rfl sz_) rfl ?_
   repeat refine rq_ ?_
   refine WQ_call rfl rfl (by kernel_rfl) rfl (find1_ok s id) ?_
   have hh' : hasI ss id = decide (cmpI s.id.l id.l = 0) := hh
   by_cases h0 : cmpI s.id.l id.l = 0
   all_goals
    repeat refine rq_ ?_
    refine sq_end ?_; refine go_ ?_
    refine se_ret2 () trivial rfl rfl rfl (by rw [hp, hh']; simp [h0]) sub_
  ·rw [List.getElem?_eq_none (by omega)] at hh
   refine sq_region (by kernel_rfl) (by kernel_rfl) ?_
   repeat refine rq_ ?_
   refine sq_end ?_; refine go_ ?_
   refine se_ret2 () trivial rfl rfl rfl (by rw [hp, hh]) sub_
end
section
def zSeen : Value := .agg (bytes (List.replicate 16 0) ++ [Value.int .u64 0, Value.int .i64 0]).toArray
theorem Tryz.infoSeen : (Tryz.prog.info? 62).map (fun i => (i.zero, i.size, i.bytes)) = some (some zSeen, 18, 32) := by kernel_rfl
open pRq2
theorem find_ok {L : List Fa} {x c : Nat} {A : Option Addr} {ss : List Seen} {lim : Int} (id : Id) (hx : At (blk x 159 [.slice A ss.length c, .int .i64 lim]) L) (hr : Vw L (fun w => Reads w 18 A ss.length (rows Seen.cells ss))) (hs : Srt ss) (hn : ss.length ≤ 4611686018427387904) :
  Fn Tryz.prog 99 #[.pointer (some ⟨x, 0, none⟩), id.v] L (Ret (fun _ : Unit => True) (fun _ => .tuple #[.int .i64 (posI ss id), .bool (hasI ss id)]) (fun _ => L)) := by
 refine fe_ Tryz.func99 Tryz.ntmps99 [(0, .pointer (some ⟨x, 0, none⟩)), (1, id.v)] ?_; refine go_ ?_; refine bx_ ?_; intro ga; refine go_ ?_; refine sq_region (by kernel_rfl) (by kernel_rfl) ?_
 repeat refine rq_ ?_
 refine WQ_call rfl rfl (by kernel_rfl) rfl (search_ok id (hr.mono sub_) hs hn) ?_
 repeat refine rq_ ?_
 refine sq_end ?_; refine go_ ?_
 refine se_ret2 () trivial rfl rfl rfl rfl sub_
theorem rclone_ok {K : List Fa} {A : Option Addr} {n c : Nat} {xs : List Value} (hr : Vw K (fun w => Reads w 18 A n xs)) (h1 : ∀ u ∈ xs, u.oneCell' = true) (hn : n ≤ 1000000000) :
  Fn Tryz.prog 117 #[.slice A n c] K (Ret (fun _ : Option Addr × Nat => True) (fun p => .slice p.1 n p.2) (fun p => own 62 18 p.1 n p.2 xs :: K)) := by
 refine fn_know (φ := A = none → n = 0 ∧ xs = []) (fun w hw hA => ?_) (fun hA => ?_)
 ·subst hA
  have h := hr w hw
  rcases Nat.eq_zero_or_pos n with h0 | h0
  ·subst h0; exact ⟨rfl, List.eq_nil_of_length_eq_zero (by simpa using h.1)⟩
  ·obtain ⟨_, h2, _⟩ := h.2 h0
   cases h2
 refine fe_ Tryz.func117 Tryz.ntmps117 [(0, .slice A n c)] ?_
 cases A with
 | none =>
  obtain ⟨rfl, rfl⟩ := hA rfl
  refine go_ ?_; exact se_ret1 (none, 0) trivial rfl rfl (Sub.own_nil Sub.refl)
 | some ad =>
  refine go_ ?_; refine sl_build0 (size := 18) rfl (fun W => by kernel_rfl) rfl ?_; intro g; refine go_ ?_; refine sl_app rfl pick_ rfl (hr.mono sub_) h1 rfl Tryz.infoSeen (by decide) (by decide) rfl (by unfold maxLen; omega) (by omega) ?_
  intro A' c'
  rw [Nat.zero_add, List.nil_append]; refine go_ ?_; exact r1_ (A', c')
end
end
end Go.Proofs.YtocaabnbmcpjmaaGreat
