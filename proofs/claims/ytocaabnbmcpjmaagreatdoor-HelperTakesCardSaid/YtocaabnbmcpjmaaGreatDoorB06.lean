/- Several texts of one claim, one behind the other (Ap, Pw, Pr, Skr, Km, Ma, Rq1). -/
import Derived.Test.YtocaabnbmcpjmaaGreatDoorB05
import Derived.Test.YtocaabnbmcpjmaaGreatDoorB01
import Derived.Test.YtocaabnbmcpjmaaGreatDoorB04
import Derived.Test.YtocaabnbmcpjmaaGreatDoorRows
import Derived.WideKeyArr
import Derived.Test.YtocaabnbmcpjmaaGreatDoorB03
import Derived.Lib.Bytealg
set_option linter.unusedVariables false
set_option linter.unusedSimpArgs false
/- Short words for what is found by looking: a premise that is filled in by the steps written here once. No program is in sight. -/
namespace Go.Proofs.YtocaabnbmcpjmaaGreatDoor
open Go.RowKit
theorem at_ {φ : Prop} (h : φ := by (repeat (first | exact At.here | assumption | refine At.there ?_)); first | done | fail) : φ := h
theorem pick_ {φ : Prop} (h : φ := by (repeat (first | exact Pick.here | apply Pick.there)); first | done | fail) : φ := h
theorem sub_ {φ : Prop} (h : φ := by (repeat (first | exact Sub.refl | exact Sub.nil | (apply Sub.cons; (repeat (first | exact Pick.here | apply Pick.there)); show Sub _ _) | apply Sub.skip)); first | done | fail) : φ := h
theorem has_ {φ : Prop} (h : φ := by (repeat (first | exact has_nil | refine has_cons rfl ?_)); first | done | fail) : φ := h
theorem nop_ {φ : Prop} (h : φ := by repeat (first | exact nop_body | refine nop_then ?_ | refine nop_block ?_)) : φ := h
inductive AtAll (L : List Fa) : List Fa → Prop
  | nil : AtAll L []
  | cons {f : Fa} {r : List Fa} (h : At f L) (hr : AtAll L r) : AtAll L (f :: r)
theorem AtAll.all {w : World} {L r : List Fa} (hw : Sep w L) (h : AtAll L r) : AllP w r := by
  induction h with
  | nil => exact AllP.nil
  | cons h _ ih => exact AllP.cons (hw.at h) ih
theorem all_ {w : World} {L r : List Fa} (hw : Sep w L) (h : AtAll L r := by (repeat (first | exact AtAll.nil | refine AtAll.cons (by exact at_) ?_)); first | done | fail) : AllP w r := h.all hw
theorem gd_ {φ : Prop} (h : φ := by first | exact GdOk.none | exact GdOk.some rfl rfl rfl) : φ := h
structure Hide (p : Prop) : Prop where
  out : p
theorem so_ {φ ψ : Prop} (k : ψ) (h : Hide ψ → φ := by (intro k; (first | refine sc_seq ?_ | refine sc_region ?_ | refine sl_nil ?_ | refine se_seq ?_ | refine sc_cond rfl (by constructor) ?_ | refine sc_skip ?_ | refine sc_block ?_ | refine se_blk (by first | exact .n | exact .h | exact .m rfl | exact .r | exact .p) ?_ | refine sc_exit ?_ | refine se_pass (by constructor) ?_ | refine sc_ret ?_); exact k.out)) : φ := h ⟨k⟩
section
variable {P : Program} {ops : Array Oper} {Q : Exit → Act → World → Prop} {n : Nat} {l : Env} {L L1 : List Fa} {rest : List Oper} {d : Tmp} {ty : TypeId} {pos : String} {after : Array Edge} {x : Operand} {f : FuncId} {cap : List Value} {zs : List Operand} {vs : List Value} {ats : Array TypeId} {α : Type} {φ : α → Prop} {vv : α → Value} {H : α → List Fa} {args : Array Value} {dst : Option Tmp}
end
end Go.Proofs.YtocaabnbmcpjmaaGreatDoor
/- pack.Writer over facts; the reference's Uint and Long. -/
namespace Go.Proofs.YtocaabnbmcpjmaaGreatDoor
open Go.RowKit
attribute [local irreducible] Go.Calls Go.Exit.then Go.Exit.inBlock Go.bodyPost Go.Code.wp Go.wpList

abbrev u8o (A : Option Addr) (c : Nat) (bs : List Int) : Fa := own 5 1 A bs.length c (bytes bs)
abbrev wrb (b : Nat) (A : Option Addr) (n c : Nat) : Fa := blk b 144 [.slice A n c]
theorem vw_len {K : List Fa} {X : Option Addr} {m : Nat} {xs : List Int} (hr : Vw K (fun w => Reads w 1 X m (bytes xs))) : ∀ w, Sep w K → xs.length = m := fun w hw => by
  have := (hr w hw).1
  simpa [bytes] using this
theorem bytes_app (a b : List Int) : bytes (a ++ b) = bytes a ++ bytes b := by simp [bytes]

theorem nth_Pw {φ : Prop} (h : φ := by (first | rfl | rfl)) : φ := h
theorem mid_Pw {φ : Prop} (h : φ := by (first | exact Mid.all | exact Mid.all | exact Mid.head)) : φ := h
theorem sz_Pw {φ : Prop} (h : φ := by (first | rfl | (rfl; first | done | fail))) : φ := h
theorem one_Pw {φ : Prop} (h : φ := by (first | assumption | exact one_bytes _ | (simp only [List.mem_cons, List.not_mem_nil, or_false, forall_eq_or_imp, forall_eq]; decide) | exact one_bytes _ | (intro v hv; (repeat (rcases List.mem_cons.1 hv with rfl | hv; rfl)); cases hv))) : φ := h
theorem set_Pw {φ : Prop} (h : φ := by (first | (fail) | ((repeat (first | exact SetAt.here | apply SetAt.there)); first | done | fail))) : φ := h
theorem cl_Pw {φ : Prop} (h : φ := by first | rfl | exact .t | exact .f | exact .t (by omega) | exact .f (by omega) | exact .u | exact .i (by (first | exact .t (by omega) | exact .f (by omega) | exact .u | exact .i (by omega) | exact .v (by omega) | exact .b (by omega) | exact .w | rfl | omega)) | exact .v (by omega) | exact .b (by omega) | exact .q (by omega) | exact .w | exact .b (by exact at_) rfl (by exact nth_Pw) | exact .w (by exact at_) rfl rfl (by exact sz_Pw) | exact .s (by exact at_) (by exact mid_Pw) rfl rfl (by exact sz_Pw) | exact .z rfl rfl ⟨by kernel_rfl⟩ | exact .b rfl rfl ⟨by kernel_rfl⟩ | exact .a rfl rfl ⟨by kernel_rfl⟩ | exact .o rfl | exact .s | exact .n | exact .p rfl | exact .q rfl | exact .c rfl | exact .d rfl | exact .n rfl rfl (by omega) | exact .a rfl rfl (by omega) | exact .p rfl rfl (by omega) (by omega) | exact .y rfl rfl (by omega) (by omega) | exact .o (by exact at_) (by omega) rfl (by exact nth_Pw) | exact .m (by exact at_) (by omega) (by exact mid_Pw) rfl rfl (by exact sz_Pw) | exact .mlen (by exact at_) rfl | exact .t (by exact at_) rfl rfl (by first | exact True.intro | rfl) (by assumption) | exact .f (by exact at_) rfl rfl (by first | exact True.intro | rfl) (by assumption) rfl | exact .t1 (by exact at_) rfl rfl (by first | exact True.intro | rfl) (by assumption) | exact .f1 (by exact at_) rfl rfl (by first | exact True.intro | rfl) (by assumption) rfl | exact .tk (by exact at_) rfl (by assumption) (by assumption) | exact .fk (by exact at_) rfl (by assumption) (by assumption) rfl | exact .tk1 (by exact at_) rfl (by assumption) (by assumption) | exact .fk1 (by exact at_) rfl (by assumption) (by assumption) rfl | exact .r rfl rfl (by omega) (by omega) (by exact nth_Pw) rfl | exact .s rfl (by omega) (by assumption) | exact at_ | assumption | exact .r rfl rfl | exact .h rfl rfl rfl (by omega) | exact .l rfl rfl rfl (by omega) (by omega) | exact .g rfl rfl rfl rfl (by omega) (by omega) | exact .h rfl rfl (toN_ (by omega)) (by omega) | exact .l rfl rfl (toN_ (by omega)) (by omega) (by omega) | exact .g rfl rfl (toN_ (by omega)) (toN_ (by omega)) (by omega) (by omega) | exact .o (by decide) | exact .f (by decide) | exact .n (by omega) (by first | decide | (show _ ≤ ((64 : Nat) : Int); omega)) | (constructor; (repeat (first | exact .t (by omega) | exact .f (by omega) | exact .u | exact .i (by omega) | exact .v (by omega) | exact .b (by omega) | exact .w | rfl | omega)); first | done | fail) | omega | (show _ ≤ ((64 : Nat) : Int); omega)) : φ := h
theorem pv_Pw {φ : Prop} (h : φ := by constructor; (repeat exact cl_Pw); first | done | fail) : φ := h
theorem su_Pw {φ ψ : Prop} (k : ψ) (h : Hide ψ → φ := by (intro k; (first | refine sl_pu (PuI.sep (by exact pv_Pw)) rfl ?_ | refine sl_yes rfl rfl ?_ | refine sl_no rfl rfl rfl ?_ | refine sl_off rfl rfl rfl ?_ | (fail)); exact k.out)) : φ := h ⟨k⟩
theorem sto_Pw {φ ψ : Prop} (k : ψ) (h : Hide ψ → φ := by (intro k; (first | refine sl_store rfl (by exact pick_) rfl rfl (by kernel_rfl) (by exact set_Pw) ?_ | refine sl_store_whole rfl (by exact pick_) rfl (by exact sz_Pw) (by exact sz_Pw) (by exact one_Pw) ?_); exact k.out)) : φ := h ⟨k⟩
theorem go_Pw {φ ψ : Prop} (k : ψ) (h : Hide ψ → φ := by (intro k; (repeat (first | refine su_Pw ?_ | refine so_ ?_ | refine sto_Pw ?_)); exact k.out)) : φ := h ⟨k⟩
set_option maxRecDepth 100000 in
theorem wRaw {K : List Fa} {b c m cap : Nat} {A X : Option Addr} {bs xs : List Int} (hr : Vw K (fun w => Reads w 1 X m (bytes xs))) (hm : bs.length + m ≤ 70368744177664) :
    Fn Tryz.prog 57 #[.pointer (some ⟨b, 0, none⟩), .slice X m cap] (wrb b A bs.length c :: u8o A c bs :: K) (Ret (fun _ : Option Addr × Nat => True) (fun _ => .tuple #[]) (fun p => wrb b p.1 (bs ++ xs).length p.2 :: u8o p.1 p.2 (bs ++ xs) :: K)) := by
  refine fn_know (fun w hw => vw_len hr w hw.tl.tl) ?_
  intro hx
  refine fn_enter Tryz.func57 rfl _ Tryz.ntmps57 (by simp) [(0, .pointer (some ⟨b, 0, none⟩)), (1, .slice X m cap)] (args_of (by simp)) ?_
  refine go_Pw ?_
  refine sl_app rfl (by exact pick_) rfl (hr.mono (by exact sub_)) (one_bytes _) rfl Tryz.info5 (by decide) (by decide) rfl (by unfold maxLen; omega) (by omega) ?_
  intro A' c'
  refine go_Pw ?_
  refine se_end0 (A', c') trivial rfl rfl ?_
  dsimp only
  unfold u8o wrb
  rw [List.length_append, hx, bytes_app]
  exact sub_

theorem min_max8 {k : Nat} (hk : k ≤ 8) : (if (8 : Int) < (if (k : Int) < 0 then 0 else (k : Int)) then 8 else (if (k : Int) < 0 then 0 else (k : Int))) = (k : Int) := by
  split <;> split <;> omega
structure Wg where
  j : Nat
  A : Option Addr
  c : Nat
set_option maxRecDepth 100000 in
theorem wUint {K : List Fa} {b c : Nat} {A : Option Addr} {bs : List Int} {n : Int} {k : Nat} (hk : k ≤ 8) (h0 : 0 ≤ n) (h1 : n ≤ 18446744073709551615) (hm : bs.length + 8 ≤ 70368744177664) :
    Fn Tryz.prog 28 #[.pointer (some ⟨b, 0, none⟩), .int .u64 n, .int .i64 k] (wrb b A bs.length c :: u8o A c bs :: K) (Ret (fun _ : Option Addr × Nat => True) (fun _ => .tuple #[]) (fun p => wrb b p.1 (bs ++ le n k).length p.2 :: u8o p.1 p.2 (bs ++ le n k) :: K)) := by
  refine fn_enter Tryz.func28 rfl _ Tryz.ntmps28 (by simp) [(0, .pointer (some ⟨b, 0, none⟩)), (1, .int .u64 n), (2, .int .i64 k)] (args_of (by simp)) ?_
  have hmm := min_max8 hk
  refine go_Pw ?_
  refine sc_for (fun g : Wg => [(0, .pointer (some ⟨b, 0, none⟩)), (1, .int .u64 n), (9, .int .i64 k), (10, .int .i64 g.j)]) (fun g => wrb b g.A (bs ++ le n g.j).length g.c :: u8o g.A g.c (bs ++ le n g.j) :: K) (fun g => g.j ≤ k) (fun g => k - g.j) ⟨0, A, c⟩ (by first | exact has_ | (rw [hmm]; exact has_)) (by simp only [le, List.range_zero, List.map_nil, List.append_nil]; exact Sub.refl) (Nat.zero_le _) ?_
  rintro ⟨j, A1, c1⟩ hj
  dsimp only at hj ⊢
  by_cases hlt : j < k
  · refine go_Pw ?_
    rw [IntKind.wrap_u8, show (8 * (j : Int)).toNat = 8 * j from by omega]
    refine sl_build (size := 1) (e := 5) (cells := bytes [n / 2 ^ (8 * j) % 256]) rfl (fun W => by kernel_rfl) rfl (by decide) rfl ?_
    intro gv
    refine sl_call rfl rfl (by kernel_rfl) rfl (by exact sub_) (wRaw (xs := [n / 2 ^ (8 * j) % 256]) (Vw.of_own (A := some ⟨gv, 0, none⟩) (c := 1) (e := 5) .here) (by simp [le_len]; omega)) ?_
    rintro ⟨A2, c2⟩ -
    refine go_Pw ?_
    refine se_round ⟨j + 1, A2, c2⟩ (by exact has_) ?_ hlt (by dsimp only; omega)
    dsimp only
    rw [le_succ, ← List.append_assoc]
    exact sub_
  · refine go_Pw ?_
    obtain rfl : j = k := by omega
    exact se_end0 (A1, c1) trivial rfl rfl (by exact sub_)
set_option maxRecDepth 100000 in
theorem wLong {K : List Fa} {b c m cap : Nat} {A X : Option Addr} {bs xs : List Int} (hr : Vw K (fun w => Reads w 1 X m (bytes xs))) (hm : bs.length + m ≤ 1000000000) :
    Fn Tryz.prog 66 #[.pointer (some ⟨b, 0, none⟩), .slice X m cap] (wrb b A bs.length c :: u8o A c bs :: K) (Ret (fun _ : Option Addr × Nat => True) (fun _ => .tuple #[]) (fun p => wrb b p.1 (bs ++ (le m 4 ++ xs)).length p.2 :: u8o p.1 p.2 (bs ++ (le m 4 ++ xs)) :: K)) := by
  refine fn_enter Tryz.func66 rfl _ Tryz.ntmps66 (by simp) [(0, .pointer (some ⟨b, 0, none⟩)), (1, .slice X m cap)] (args_of (by simp)) ?_
  refine go_Pw ?_
  refine sl_call rfl rfl (by kernel_rfl) rfl (by exact sub_) (wUint (n := (m : Int)) (k := 4) (by decide) (by omega) (by omega) (by omega)) ?_; rintro ⟨A1, c1⟩ -
  refine go_Pw ?_
  refine sl_call rfl rfl (by kernel_rfl) rfl (by exact sub_) (wRaw hr (by simp [le_len]; omega)) ?_; rintro ⟨A2, c2⟩ -
  refine go_Pw ?_
  refine se_end0 (A2, c2) trivial rfl rfl ?_
  dsimp only
  rw [← List.append_assoc]
  exact sub_
set_option maxRecDepth 100000 in
theorem wBytes {K : List Fa} {b c : Nat} {A : Option Addr} {bs : List Int} (hm : bs.length ≤ 70368744177664) :
    Fn Tryz.prog 59 #[.pointer (some ⟨b, 0, none⟩)] (wrb b A bs.length c :: u8o A c bs :: K) (Ret (fun _ : Option Addr × Nat => True) (fun p => .slice p.1 bs.length p.2) (fun p => u8o p.1 p.2 bs :: wrb b A bs.length c :: u8o A c bs :: K)) := by
  refine fn_enter Tryz.func59 rfl _ Tryz.ntmps59 (by simp) [(0, .pointer (some ⟨b, 0, none⟩))] (args_of (by simp)) ?_
  refine go_Pw ?_
  refine sl_build0 (e := 5) (size := 1) rfl (fun W => by kernel_rfl) rfl ?_
  intro g0
  refine go_Pw ?_
  refine sl_app rfl (by exact pick_) rfl (Vw.of_own (c := c) (e := 5) (by exact at_)) (one_bytes _) rfl Tryz.info5 (by decide) (by decide) rfl (by unfold maxLen; omega) (by omega) ?_
  intro A' c'
  rw [Nat.zero_add, List.nil_append]
  refine go_Pw ?_
  exact se_ret1 (A', c') trivial rfl rfl (by exact sub_)

/-! The reference's. -/
end Go.Proofs.YtocaabnbmcpjmaaGreatDoor
/- pack.Reader over facts. -/
namespace Go.Proofs.YtocaabnbmcpjmaaGreatDoor
open Go.RowKit
attribute [local irreducible] Go.Calls Go.Exit.then Go.Exit.inBlock Go.bodyPost Go.Code.wp Go.wpList

abbrev rdb (r : Nat) (A : Option Addr) (n c : Nat) : Fa := blk r 166 [.slice A n c, .bool true]
/-- What is left to read. -/
structure Rd (Z : List Fa) (A : Option Addr) (n c : Nat) (rest : List Int) : Prop where
  vw : Vw Z (fun w => Reads w 1 A n (bytes rest))
  le : n ≤ c
  big : n ≤ 70368744177664
  cb : c ≤ maxLen
  len : rest.length = n
  okb : IsBytes rest
theorem Rd.next {Z : List Fa} {A : Option Addr} {n c : Nat} {rest : List Int} (h : Rd Z A n c rest) {k : Nat} (hk : k ≤ n) : Rd Z (cutA A c k 1) (n - k) (c - k) (rest.drop k) := by
  have hl := h.le
  refine ⟨fun w hw => ?_, by omega, by have := h.big; omega, by have := h.cb; omega, by rw [List.length_drop, h.len], h.okb.drop k⟩
  have h1 := (h.vw w hw).cut (k := k) (cap := c) hk h.le
  have h2 : (bytes rest).drop (k * 1) = bytes (rest.drop k) := by rw [Nat.mul_one]; simp [bytes]
  rw [h2] at h1
  exact h1
structure Rg where
  A : Option Addr
  n : Nat
  c : Nat
abbrev Rg.ok (Z : List Fa) (rest : List Int) (q : Rg) : Prop := Rd Z q.A q.n q.c rest
def stopC (c : Int) : List PanicEntry := [{ v := stopV c, recovered := false }]
theorem rFail {K : List Fa} {r : Nat} {s : Value} {c : Int} (hc : (c == 0) = false) : Fn Tryz.prog 56 #[.pointer (some ⟨r, 0, none⟩), .int .i64 c] (blk r 166 [s, .bool true] :: K) (Pan (fun _ : Unit => True) (fun _ => stopC c) (fun _ => blk r 166 [s, .bool true] :: K)) := by
  unfold Fn
  intro w hw
  have hB := blk_at hw .here
  refine (Fail_stop (by simpa using hB) c hc).mono ?_
  rintro e w' ⟨rfl, rfl⟩
  exact ⟨(), trivial, rfl, hw⟩
theorem bytes_take (xs : List Int) (k : Nat) : (bytes xs).take (k * 1) = bytes (xs.take k) := by rw [Nat.mul_one]; simp [bytes]

theorem nth_Pr {φ : Prop} (h : φ := by (first | rfl | rfl)) : φ := h
theorem mid_Pr {φ : Prop} (h : φ := by (first | exact Mid.all | exact Mid.all | exact Mid.head)) : φ := h
theorem sz_Pr {φ : Prop} (h : φ := by (first | rfl | (first | (simp only [bytes_length, Id.len]; rfl) | (simp only [bytes_length, Id.len]); first | done | fail))) : φ := h
theorem one_Pr {φ : Prop} (h : φ := by (first | assumption | exact one_bytes _ | (simp only [List.mem_cons, List.not_mem_nil, or_false, forall_eq_or_imp, forall_eq]; decide) | exact one_bytes _ | (intro v hv; (repeat (rcases List.mem_cons.1 hv with rfl | hv; rfl)); cases hv))) : φ := h
theorem set_Pr {φ : Prop} (h : φ := by (first | (fail) | ((repeat (first | exact SetAt.here | apply SetAt.there)); first | done | fail))) : φ := h
theorem cl_Pr {φ : Prop} (h : φ := by first | rfl | exact .t | exact .f | exact .t (by omega) | exact .f (by omega) | exact .u | exact .i (by (first | exact .t (by omega) | exact .f (by omega) | exact .u | exact .i (by omega) | exact .v (by omega) | exact .b (by omega) | exact .w | rfl | omega)) | exact .v (by omega) | exact .b (by omega) | exact .q (by omega) | exact .w | exact .b (by exact at_) rfl (by exact nth_Pr) | exact .w (by exact at_) rfl rfl (by exact sz_Pr) | exact .s (by exact at_) (by exact mid_Pr) rfl rfl (by exact sz_Pr) | exact .z rfl rfl ⟨by kernel_rfl⟩ | exact .b rfl rfl ⟨by kernel_rfl⟩ | exact .a rfl rfl ⟨by kernel_rfl⟩ | exact .o rfl | exact .s | exact .n | exact .p rfl | exact .q rfl | exact .c rfl | exact .d rfl | exact .n rfl rfl (by omega) | exact .a rfl rfl (by omega) | exact .p rfl rfl (by omega) (by omega) | exact .y rfl rfl (by omega) (by omega) | exact .o (by exact at_) (by omega) rfl (by exact nth_Pr) | exact .m (by exact at_) (by omega) (by exact mid_Pr) rfl rfl (by exact sz_Pr) | exact .mlen (by exact at_) rfl | exact .t (by exact at_) rfl rfl (by first | exact True.intro | rfl) (by assumption) | exact .f (by exact at_) rfl rfl (by first | exact True.intro | rfl) (by assumption) rfl | exact .t1 (by exact at_) rfl rfl (by first | exact True.intro | rfl) (by assumption) | exact .f1 (by exact at_) rfl rfl (by first | exact True.intro | rfl) (by assumption) rfl | exact .tk (by exact at_) rfl (by assumption) (by assumption) | exact .fk (by exact at_) rfl (by assumption) (by assumption) rfl | exact .tk1 (by exact at_) rfl (by assumption) (by assumption) | exact .fk1 (by exact at_) rfl (by assumption) (by assumption) rfl | exact .r rfl rfl (by omega) (by omega) (by exact nth_Pr) rfl | exact .s rfl (by omega) (by assumption) | exact at_ | assumption | exact .r rfl rfl | exact .h rfl rfl rfl (by omega) | exact .l rfl rfl rfl (by omega) (by omega) | exact .g rfl rfl rfl rfl (by omega) (by omega) | exact .h rfl rfl (toN_ (by omega)) (by omega) | exact .l rfl rfl (toN_ (by omega)) (by omega) (by omega) | exact .g rfl rfl (toN_ (by omega)) (toN_ (by omega)) (by omega) (by omega) | exact .o (by decide) | exact .f (by decide) | exact .n (by omega) (by first | decide | (show _ ≤ ((64 : Nat) : Int); omega)) | (constructor; (repeat (first | exact .t (by omega) | exact .f (by omega) | exact .u | exact .i (by omega) | exact .v (by omega) | exact .b (by omega) | exact .w | rfl | omega)); first | done | fail) | omega | (show _ ≤ ((64 : Nat) : Int); omega)) : φ := h
theorem pv_Pr {φ : Prop} (h : φ := by constructor; (repeat exact cl_Pr); first | done | fail) : φ := h
theorem su_Pr {φ ψ : Prop} (k : ψ) (h : Hide ψ → φ := by (intro k; (first | refine sl_pu (PuI.sep (by exact pv_Pr)) rfl ?_ | refine sl_yes rfl rfl ?_ | refine sl_no rfl rfl rfl ?_ | refine sl_off rfl rfl rfl ?_ | (fail)); exact k.out)) : φ := h ⟨k⟩
theorem sto_Pr {φ ψ : Prop} (k : ψ) (h : Hide ψ → φ := by (intro k; (first | refine sl_store rfl (by exact pick_) rfl rfl (by kernel_rfl) (by exact set_Pr) ?_ | refine sl_store_whole rfl (by exact pick_) rfl (by exact sz_Pr) (by exact sz_Pr) (by exact one_Pr) ?_); exact k.out)) : φ := h ⟨k⟩
theorem go_Pr {φ ψ : Prop} (k : ψ) (h : Hide ψ → φ := by (intro k; (repeat (first | refine su_Pr ?_ | refine so_ ?_ | refine sto_Pr ?_)); exact k.out)) : φ := h ⟨k⟩
set_option maxRecDepth 100000 in
theorem rRaw {K Z : List Fa} {r n c k : Nat} {A : Option Addr} {rest : List Int} (hz : Sub K Z) (h : Rd Z A n c rest) (hk : k ≤ n) :
    Fn Tryz.prog 77 #[.pointer (some ⟨r, 0, none⟩), .int .i64 k] (rdb r A n c :: K) (Ret (fun p : (Option Addr × Nat) × Rg => p.2.ok Z (rest.drop k)) (fun p => .slice p.1.1 k p.1.2) (fun p => own 5 1 p.1.1 k p.1.2 (bytes (rest.take k)) :: rdb r p.2.A p.2.n p.2.c :: K)) := by
  have hle := h.le
  have hbig := h.big
  refine fn_enter Tryz.func77 rfl _ Tryz.ntmps77 (by simp) [(0, .pointer (some ⟨r, 0, none⟩)), (1, .int .i64 k)] (args_of (by simp)) ?_
  refine go_Pr ?_
  refine sl_build0 (e := 5) (size := 1) rfl (fun W => by kernel_rfl) rfl ?_
  intro g0
  refine go_Pr ?_
  refine sl_app rfl (by exact pick_) rfl (Vw.imp (h.vw.mono (L' := _ :: _ :: K) (Sub.skip (Sub.skip hz))) (fun w h => h.take hk)) (by rw [bytes_take]; exact one_bytes _) rfl Tryz.info5 (by decide) (by decide) rfl (by unfold maxLen; omega) (by omega) ?_
  intro A' c'
  rw [Nat.zero_add, List.nil_append, bytes_take]
  refine go_Pr ?_
  exact se_ret1 ((A', c'), ⟨cutA A c k 1, n - k, c - k⟩) (h.next hk) rfl rfl (by exact sub_)
set_option maxRecDepth 100000 in
theorem rUint {K Z : List Fa} {r n c k : Nat} {A : Option Addr} {rest : List Int} (hz : Sub K Z) (h : Rd Z A n c rest) (hk8 : k ≤ 8) (hk : k ≤ n) :
    Fn Tryz.prog 44 #[.pointer (some ⟨r, 0, none⟩), .int .i64 k] (rdb r A n c :: K) (Ret (fun p : Rg => p.ok Z (rest.drop k)) (fun _ => .int .u64 (leV (rest.take k))) (fun p => rdb r p.A p.n p.c :: K)) := by
  have htl : (rest.take k).length = k := by rw [List.length_take, h.len]; omega
  have htb : IsBytes (rest.take k) := h.okb.take k
  have hmm := min_max8 hk8
  refine fn_enter Tryz.func44 rfl _ Tryz.ntmps44 (by simp) [(0, .pointer (some ⟨r, 0, none⟩)), (1, .int .i64 k)] (args_of (by simp)) ?_
  repeat (first | rw [hmm] | (first | refine su_Pr ?_ | refine so_ ?_))
  refine sl_call rfl rfl (by kernel_rfl) rfl Sub.refl (rRaw hz h hk) ?_
  rintro ⟨⟨P, cp⟩, q⟩ hq
  dsimp only at hq ⊢
  generalize rest.take k = xs at *
  refine sl_know (fun w hw => (own_len (e := 5) (size := 1) (A := P) hw .here).2) ?_
  rintro ⟨hc1, hc2⟩
  refine go_Pr ?_
  refine sc_bjoin (fun _ : Unit => [(5, .int .u64 (leV xs))]) (fun _ => own 5 1 P k cp (bytes xs) :: rdb r q.A q.n q.c :: K) (fun _ => True) ?_ ?_
  · refine sc_for (fun j : Nat => [(5, .int .u64 (leV (xs.take j))), (12, .slice P k cp), (13, .int .i64 k), (14, .int .i64 j)]) (fun _ => own 5 1 P k cp (bytes xs) :: rdb r q.A q.n q.c :: K) (fun j => j ≤ k) (fun j => k - j) 0 (by exact has_) (by exact sub_) (Nat.zero_le _) ?_
    intro j hj
    by_cases hlt : j < k
    · have hxl : j < xs.length := by omega
      have hst := or_step htb j hxl (by omega)
      have hx0 := htb _ (List.getElem_mem hxl)
      refine sc_form (A := P) (by exact at_) (by omega) ?_
      rintro g rfl
      refine go_Pr ?_
      refine sl_pu (pu_ldr (v := .int .u8 xs[j]) (Vw.of_own (by exact at_)) (by omega) rfl rfl (by rw [nth_eq]; simp [bytes])) rfl ?_
      generalize xs[j] = x at *
      refine go_Pr ?_
      rw [show (8 * (j : Int)).toNat = 8 * j from by omega, hst]
      refine go_Pr ?_
      exact se_round (j + 1) (by exact has_) (by exact sub_) hlt (by omega)
    · obtain rfl : j = k := by omega
      have e : xs.take j = xs := by rw [← htl, List.take_length]
      rw [e]
      refine go_Pr ?_
      exact se_mid () (by exact has_) (by exact sub_) trivial
  rintro _ -
  refine go_Pr ?_
  exact se_ret1 q hq rfl rfl (by exact sub_)
set_option maxRecDepth 100000 in
theorem rCount {K Z : List Fa} {r n c k : Nat} {A : Option Addr} {rest : List Int} {most : Int} (hz : Sub K Z) (h : Rd Z A n c rest) (hk8 : k ≤ 8) (hk : k ≤ n) (hm : leV (rest.take k) ≤ most) (hmb : most ≤ 9223372036854775807) :
    Fn Tryz.prog 103 #[.pointer (some ⟨r, 0, none⟩), .int .i64 k, .int .u64 most] (rdb r A n c :: K) (Ret (fun p : Rg => p.ok Z (rest.drop k)) (fun _ => .int .i64 (leV (rest.take k))) (fun p => rdb r p.A p.n p.c :: K)) := by
  have h0 := (leV_lt (h.okb.take k)).1
  refine fn_enter Tryz.func103 rfl _ Tryz.ntmps103 (by simp) [(0, .pointer (some ⟨r, 0, none⟩)), (1, .int .i64 k), (2, .int .u64 most)] (args_of (by simp)) ?_
  refine go_Pr ?_
  refine sl_call rfl rfl (by kernel_rfl) rfl Sub.refl (rUint hz h hk8 hk) ?_
  intro q hq
  generalize leV (rest.take k) = v at *
  refine go_Pr ?_
  exact se_ret1 q hq rfl rfl (by exact sub_)
set_option maxRecDepth 100000 in
theorem rCount_range {K Z : List Fa} {r n c k : Nat} {A : Option Addr} {rest : List Int} {most : Int} (hz : Sub K Z) (h : Rd Z A n c rest) (hk8 : k ≤ 8) (hk : k ≤ n) (hm : most < leV (rest.take k)) :
    Fn Tryz.prog 103 #[.pointer (some ⟨r, 0, none⟩), .int .i64 k, .int .u64 most] (rdb r A n c :: K) (Pan (fun _ : Rg => True) (fun _ => stopC 6) (fun p => rdb r p.A p.n p.c :: K)) := by
  refine fn_enter Tryz.func103 rfl _ Tryz.ntmps103 (by simp) [(0, .pointer (some ⟨r, 0, none⟩)), (1, .int .i64 k), (2, .int .u64 most)] (args_of (by simp)) ?_
  refine go_Pr ?_
  refine sl_call rfl rfl (by kernel_rfl) rfl Sub.refl (rUint hz h hk8 hk) ?_
  intro q hq
  generalize leV (rest.take k) = v at *
  refine go_Pr ?_
  refine sl_die rfl rfl (by kernel_rfl) Sub.refl (rFail rfl) ?_
  rintro _ -
  refine go_Pr ?_
  exact se_panic q trivial (by exact sub_)

end Go.Proofs.YtocaabnbmcpjmaaGreatDoor
/- pack.Read over facts: what is asked comes to its end, or stops with an error. -/
namespace Go.Proofs.YtocaabnbmcpjmaaGreatDoor
open Go.RowKit
attribute [local go_sem ↓] Go.wp_at_zero Go.wp_at_succ
end Go.Proofs.YtocaabnbmcpjmaaGreatDoor
/- Maps whose entries own something: each with a key, a value, what it owns. No program is in sight. -/
namespace Go.Proofs.YtocaabnbmcpjmaaGreatDoor
open Go.RowKit Go.MapKept
theorem kstar_push {A B K : List Fa} {f : Fa} : Ent_ (f :: star (A ++ B) :: K) (star (A ++ f :: B) :: K) := fun w hw => by
  refine star_in w ?_
  rw [List.append_assoc, List.cons_append]
  refine (pick_mid A).back w ?_
  rw [← List.append_assoc]
  exact Ent_.tail star_out (fun k hk => by
    obtain ⟨y, hy, hk⟩ := hk
    rcases List.mem_append.1 hy with e | e
    · exact foot_cons.2 (.inl (by unfold star; exact ⟨y, e, hk⟩))
    · exact foot_cons.2 (.inr ⟨y, e, hk⟩)) w hw
theorem se_subK {Q : Exit → Act → World → Prop} {e : Exit} {n : Nat} {l : Env} {L L' : List Fa} (hs : Sub L L') (h : SE Q e n l L') : SE Q e n l L := se_ent (fun _ hw => hw.sub hs) h
theorem sub_star0 {L L' : List Fa} (h : Sub L L') : Sub L (star [] :: L') :=
  .free (fun w => by unfold star; exact (Sep.start w).sub Sub.nil) (fun j hj => by unfold star at hj; exact foot_nil hj) h
structure MK (α : Type) where
  key : α → Value
  val : α → Value
  bn : α → Nat
  fa : α → Fa
def MK.ent {α : Type} (M : MK α) (a : α) : MapEntry := ⟨M.key a, M.val a, M.bn a⟩
abbrev kM {α : Type} (M : MK α) (m : Nat) (d : TypeDesc) (fs : List α) (ck : Nat) : Fa := mp m d (fs.map M.ent) ck
abbrev kS {α : Type} (M : MK α) (fs : List α) : Fa := star (fs.map M.fa)
section
variable {P : Program} {ops : Array Oper} {Q : Exit → Act → World → Prop} {n : Nat} {l : Env} {L L' : List Fa} {rest : List Oper} {ty t kt e : TypeId} {pos : String} {after : Array Edge} {x y u : Operand} {m ck : Nat} {d : TypeDesc} {α : Type} {M : MK α} {X Y fs : List α} {f f' : α} {K : List Fa} {k v : Value}
theorem kget (h : f ∈ fs) : MGet (fs.map M.ent) (M.key f) (M.val f) := ⟨M.ent f, List.mem_map.2 ⟨f, h, rfl⟩, rfl, rfl⟩
theorem kno (h : ∀ f ∈ fs, M.key f ≠ k) : MNo (fs.map M.ent) k := fun e he hk => by
  obtain ⟨f, hf, rfl⟩ := List.mem_map.1 he
  exact h f hf hk
theorem ks_new : Ent_ (M.fa f' :: kS M fs :: K) (kS M (fs ++ [f']) :: K) := fun w hw => by
  have e2 : kS M (fs ++ [f']) = star (fs.map M.fa ++ M.fa f' :: []) := by
    show star _ = _
    rw [List.map_append, List.map_cons, List.map_nil]
  rw [e2]
  refine kstar_push w ?_
  rw [List.append_nil]
  exact hw
end
end Go.Proofs.YtocaabnbmcpjmaaGreatDoor
/- Maps whose keys are ids (sixteen bytes); a key struck. -/
namespace Go.Proofs.YtocaabnbmcpjmaaGreatDoor
open Go.RowKit Go.MapKept Go.WideMaps
section
variable {P : Program} {ops : Array Oper} {Q : Exit → Act → World → Prop} {n : Nat} {l : Env} {L L' : List Fa} {rest : List Oper} {ty t kt e : TypeId} {pos : String} {after : Array Edge} {x y : Operand} {g ck : Nat} {d : TypeDesc} {A B : List MapEntry}
end
theorem mapM_ex {β : Type} {f : Nat → Option β} : ∀ l : List Nat, (∀ i ∈ l, ∃ y, f i = some y) → ∃ r, l.mapM f = some r
  | [], _ => ⟨[], rfl⟩
  | i :: l, h => by
    obtain ⟨y, hy⟩ := h i (List.mem_cons_self ..)
    obtain ⟨r, hr⟩ := mapM_ex l (fun j hj => h j (List.mem_cons_of_mem _ hj))
    exact ⟨y :: r, by simp [List.mapM_cons, hy, hr]⟩
theorem idKey : ArrKey Tryz.prog 56 5 16 := ⟨Tryz.underlying56, by kernel_rfl, by kernel_rfl, by kernel_rfl⟩
theorem list16m {α : Type} {cs : List α} (h : cs.length = 16) : ∃ a0 a1 a2 a3 a4 a5 a6 a7 a8 a9 a10 a11 a12 a13 a14 a15, cs = [a0, a1, a2, a3, a4, a5, a6, a7, a8, a9, a10, a11, a12, a13, a14, a15] := by
  match cs, h with
  | [a0, a1, a2, a3, a4, a5, a6, a7, a8, a9, a10, a11, a12, a13, a14, a15], _ => exact ⟨a0, a1, a2, a3, a4, a5, a6, a7, a8, a9, a10, a11, a12, a13, a14, a15, rfl⟩
theorem id_formed {l : List Int} (h : l.length = 16) : (Value.agg (bytes l).toArray).formed Tryz.prog 56 = true := by
  obtain ⟨a0, a1, a2, a3, a4, a5, a6, a7, a8, a9, a10, a11, a12, a13, a14, a15, rfl⟩ := list16m h
  kernel_rfl
theorem key_id {l : List Int} (h : l.length = 16) (hb : IsBytes l) : ∃ x, keyOf Tryz.prog 56 (.agg (bytes l).toArray) = some x := by
  have hl : ∃ r, Tryz.prog.keyLits (Tryz.prog.types.size + 1) 56 (Value.agg (bytes l).toArray).cells.toList = some r := by
    obtain ⟨m, hm⟩ : ∃ m, Tryz.prog.types.size = m + 1 := ⟨Tryz.prog.types.size - 1, by kernel_rfl⟩
    rw [hm]
    have hcs : (Value.agg (bytes l).toArray).cells.toList = bytes l := by simp [Value.cells]
    rw [hcs, Program.keyLits.eq_def]
    dsimp only
    rw [Tryz.underlying56]
    dsimp only
    rw [if_pos (by rw [bytes_length, h]; kernel_rfl)]
    obtain ⟨r, hr⟩ := mapM_ex (f := fun i => Tryz.prog.keyLits (m + 1) 5 (((bytes l).drop (i * Tryz.prog.cellsOf 5)).take (Tryz.prog.cellsOf 5))) (List.range 16) (fun i hi => by
      have hi : i < 16 := List.mem_range.1 hi
      rw [idKey.one, Nat.mul_one]
      have hlt : i < l.length := by omega
      have hd : ((bytes l).drop i).take 1 = [.int .u8 l[i]] := by
        rw [List.drop_eq_getElem_cons (by rw [bytes_length]; exact hlt), List.take_succ_cons, List.take_zero]
        simp [bytes]
      rw [hd, Program.keyLits.eq_def]
      dsimp only
      rw [Tryz.underlying5]
      have hw : (Lit.int .u8 l[i]).wf = true := by
        have := hb l[i] (List.getElem_mem hlt)
        simp [Lit.wf, IntKind.min, IntKind.max, IntKind.signed, IntKind.bits]
        omega
      exact ⟨_, by dsimp only; rw [if_pos ⟨rfl, hw⟩]⟩)
    exact ⟨_, by rw [hr]; rfl⟩
  obtain ⟨r, hr⟩ := hl
  refine ⟨_, (?_ : keyOf Tryz.prog 56 (.agg (bytes l).toArray) = some (.string (keyBytes r)))⟩
  unfold keyOf
  rw [Tryz.underlying56]
  dsimp only
  rw [if_pos (by rw [id_formed h, Bool.and_true]; kernel_rfl), hr]
  rfl
theorem KLaw.id {l : List Int} (h : l.length = 16) (hb : IsBytes l) : KLaw Tryz.prog 56 (.array 16 5) (.agg (bytes l).toArray) := by
  obtain ⟨x, hx⟩ := key_id h hb
  refine ⟨.inr ⟨⟨_, rfl⟩, l, rfl, hb, h⟩, fun em w => idKey.law.check w em hx, fun es w hes => ?_, fun w => idKey.law.stays w hx⟩
  have hall : ∀ e ∈ es, ∃ l, keyOf Tryz.prog 56 e.key = some l := fun e he => by
    rcases hes e he with h4 | ⟨_, l', h5, h6, h7⟩
    · exact absurd h4 (by simp [IsKey])
    · rw [h5]
      exact key_id h7 h6
  rcases idKey.law.find w hx es hall with ⟨h1, h2⟩ | ⟨j, e, h1, h2, h3⟩
  · exact .inr ⟨h1, h2⟩
  · exact .inl ⟨j, e, h1, h2, h3⟩
end Go.Proofs.YtocaabnbmcpjmaaGreatDoor
/- Which of two ids comes first: bytes.Compare, replay.Compare, the law's less. -/
namespace Go.Proofs.YtocaabnbmcpjmaaGreatDoor
open Go.RowKit
attribute [local irreducible] Go.Calls Go.Exit.then Go.Exit.inBlock Go.bodyPost Go.Code.wp Go.wpList

/-- -1, 0, 1. -/
def cmpI : List Int → List Int → Int
  | [], [] => 0
  | [], _ :: _ => -1
  | _ :: _, [] => 1
  | x :: xs, y :: ys => if x < y then -1 else if y < x then 1 else cmpI xs ys

theorem run_loadBytes {P : Program} {w : World} : ∀ (xs : List Int) (a : Addr) (acc : ByteArray), IsBytes xs → (∀ j u, (bytes xs)[j]? = some u → w.cell? (a.add j) = some u) →
    (Extern.Bytes.loadBytes a xs.length acc).run P w = .ok ⟨acc.data ++ (u8s xs).toArray⟩ w
  | [], a, acc, _, _ => by simp [Extern.Bytes.loadBytes, u8s]
  | x :: xs, a, acc, hb, hc => by
    have h0 : w.cell? a = some (.int .u8 x) := by
      have := hc 0 (.int .u8 x) rfl
      simpa [Addr.add] using this
    have ih := run_loadBytes (P := P) (w := w) xs (a.add 1) (acc.push x.toNat.toUInt8) (fun z hz => hb z (List.mem_cons_of_mem _ hz)) (fun j u hu => by
      rw [add_twice, Nat.add_comm]
      exact hc (j + 1) u (by simpa [bytes] using hu))
    rw [List.length_cons, Extern.Bytes.loadBytes, Sem.run_bind]
    simp only [load, Sem.run, h0, Result.andThen_ok]
    rw [ih]
    congr 2
    simp [u8s, ByteArray.push]
theorem run_bytesOf {P : Program} {w : World} {A : Option Addr} {n c : Nat} {xs : List Int} (hr : Reads w 1 A n (bytes xs)) (hb : IsBytes xs) : (Extern.Bytes.bytesOf (.slice A n c)).run P w = .ok ⟨(u8s xs).toArray⟩ w := by
  have hl : xs.length = n := by have := hr.1; simpa [bytes] using this
  cases A with
  | none =>
    have : n = 0 := by
      rcases Nat.eq_zero_or_pos n with h | h
      · exact h
      · obtain ⟨_, h2, _⟩ := hr.2 h
        cases h2
    subst this
    obtain rfl := List.eq_nil_of_length_eq_zero hl
    rfl
  | some ad =>
    subst hl
    have hc : ∀ j u, (bytes xs)[j]? = some u → w.cell? (ad.add j) = some u := by
      intro j u hu
      rcases Nat.eq_zero_or_pos xs.length with h | h
      · obtain rfl := List.eq_nil_of_length_eq_zero h
        simp [bytes] at hu
      · obtain ⟨ad', h1, h2⟩ := hr.2 h
        injection h1 with h1
        subst h1
        exact h2 j u hu
    have h := run_loadBytes (P := P) (w := w) xs ad .empty hb hc
    show (Extern.Bytes.loadBytes ad xs.length .empty).run P w = _
    rw [h]
    simp [ByteArray.empty, ByteArray.emptyWithCapacity]
    rfl

theorem cmp_u8s : ∀ {xs ys : List Int}, IsBytes xs → IsBytes ys → Lib.compareBytes (u8s xs) (u8s ys) = cmpI xs ys
  | [], [], _, _ => rfl
  | [], _ :: _, _, _ => rfl
  | _ :: _, [], _, _ => rfl
  | x :: xs, y :: ys, h, h' => by
    have ih := cmp_u8s (xs := xs) (ys := ys) (fun z hz => h z (List.mem_cons_of_mem _ hz)) (fun z hz => h' z (List.mem_cons_of_mem _ hz))
    obtain ⟨a0, a1⟩ := h x (List.mem_cons_self ..)
    obtain ⟨b0, b1⟩ := h' y (List.mem_cons_self ..)
    show Lib.compareBytes (UInt8.ofNat x.toNat :: u8s xs) (UInt8.ofNat y.toNat :: u8s ys) = _
    have e1 : (UInt8.ofNat x.toNat < UInt8.ofNat y.toNat) ↔ x < y := by
      rw [UInt8.lt_iff_toNat_lt, UInt8.toNat_ofNat', UInt8.toNat_ofNat']
      omega
    have e2 : (UInt8.ofNat y.toNat < UInt8.ofNat x.toNat) ↔ y < x := by
      rw [UInt8.lt_iff_toNat_lt, UInt8.toNat_ofNat', UInt8.toNat_ofNat']
      omega
    rw [Lib.compareBytes, cmpI, ih]
    simp only [e1, e2]

theorem cmp_row (args : Array Value) (w : World) : (callFunc 162 args).run Tryz.prog w = (Extern.BytealgCompare.compare args >>= fun v => pure (Next.value v)).run Tryz.prog w := by kernel_rfl
theorem run_cmp {w : World} {A B : Option Addr} {n c m d : Nat} {xs ys : List Int} (hx : Reads w 1 A n (bytes xs)) (hxb : IsBytes xs) (hy : Reads w 1 B m (bytes ys)) (hyb : IsBytes ys) :
    (callFunc 162 #[.slice A n c, .slice B m d]).run Tryz.prog w = .ok (.value (.int .i64 (cmpI xs ys))) w := by
  rw [cmp_row]
  show Sem.run Tryz.prog ((do pure (goInt (Extern.BytealgCompare.cmp (← Extern.Bytes.bytesOf (.slice A n c)) (← Extern.Bytes.bytesOf (.slice B m d)))) : Sem Value) >>= fun v => pure (Next.value v)) w = _
  rw [Sem.run_bind, Sem.run_bind, run_bytesOf hx hxb, Result.andThen_ok, Sem.run_bind, run_bytesOf hy hyb, Result.andThen_ok, Lib.cmp_eq, cmp_u8s hxb hyb]
  rfl

set_option maxRecDepth 100000 in
theorem BytesCompare_ok {K : List Fa} {A B : Option Addr} {n c m d : Nat} {xs ys : List Int} (hx : Vw K (fun w => Reads w 1 A n (bytes xs))) (hxb : IsBytes xs) (hy : Vw K (fun w => Reads w 1 B m (bytes ys))) (hyb : IsBytes ys) :
    Fn Tryz.prog 138 #[.slice A n c, .slice B m d] K (Ret (fun _ : Unit => True) (fun _ => .int .i64 (cmpI xs ys)) (fun _ => K)) := by
  refine fn_enter Tryz.func138 rfl _ Tryz.ntmps138 (by simp) [(0, .slice A n c), (1, .slice B m d)] (args_of (by simp)) ?_
  (repeat (first | (first | refine sl_pu (PuI.sep ((by (constructor; (repeat (first | rfl | exact .t | exact .f | exact .t (by omega) | exact .f (by omega) | exact .u | exact .i (by (first | exact .t (by omega) | exact .f (by omega) | exact .u | exact .i (by omega) | exact .v (by omega) | exact .b (by omega) | exact .w | rfl | omega)) | exact .v (by omega) | exact .b (by omega) | exact .q (by omega) | exact .w | exact .b (by ((repeat (first | exact At.here | assumption | refine At.there ?_)); first | done | fail)) rfl (by (first | rfl | first | exact hnx | exact hny)) | exact .w (by ((repeat (first | exact At.here | assumption | refine At.there ?_)); first | done | fail)) rfl rfl (by (first | rfl | (rfl; first | done | fail))) | exact .s (by ((repeat (first | exact At.here | assumption | refine At.there ?_)); first | done | fail)) (by (first | exact Mid.all | exact Mid.all | exact Mid.head)) rfl rfl (by (first | rfl | (rfl; first | done | fail))) | exact .z rfl rfl ⟨by kernel_rfl⟩ | exact .b rfl rfl ⟨by kernel_rfl⟩ | exact .a rfl rfl ⟨by kernel_rfl⟩ | exact .o rfl | exact .s | exact .n | exact .p rfl | exact .q rfl | exact .c rfl | exact .d rfl | exact .n rfl rfl (by omega) | exact .a rfl rfl (by omega) | exact .p rfl rfl (by omega) (by omega) | exact .y rfl rfl (by omega) (by omega) | exact .o (by ((repeat (first | exact At.here | assumption | refine At.there ?_)); first | done | fail)) (by omega) rfl (by (first | rfl | first | exact hnx | exact hny)) | exact .m (by ((repeat (first | exact At.here | assumption | refine At.there ?_)); first | done | fail)) (by omega) (by (first | exact Mid.all | exact Mid.all | exact Mid.head)) rfl rfl (by (first | rfl | (rfl; first | done | fail))) | exact .mlen (by ((repeat (first | exact At.here | assumption | refine At.there ?_)); first | done | fail)) rfl | exact .r rfl rfl | exact .h rfl rfl rfl (by omega) | exact .l rfl rfl rfl (by omega) (by omega) | exact .g rfl rfl rfl rfl (by omega) (by omega) | exact .o (by decide) | exact .f (by decide) | exact .n (by omega) (by first | decide | (show _ ≤ ((64 : Nat) : Int); omega)) | (constructor; (repeat (first | exact .t (by omega) | exact .f (by omega) | exact .u | exact .i (by omega) | exact .v (by omega) | exact .b (by omega) | exact .w | rfl | omega)); first | done | fail) | omega | (show _ ≤ ((64 : Nat) : Int); omega))); first | done | fail)))) rfl ?_ | refine sl_yes rfl rfl ?_ | refine sl_no rfl rfl rfl ?_ | refine sl_off rfl rfl rfl ?_) | (first | refine sc_seq ?_ | refine sc_region ?_ | refine sl_nil ?_ | refine se_seq ?_ | refine sc_cond rfl (by constructor) ?_ | refine sc_skip ?_ | refine sc_block ?_ | refine se_blk (by first | exact .n | exact .h | exact .m rfl | exact .r | exact .p) ?_ | refine sc_exit ?_ | refine se_pass (by constructor) ?_ | refine sc_ret ?_) | ((first | refine sl_store rfl (by ((repeat (first | exact Pick.here | apply Pick.there)); first | done | fail)) rfl rfl (by kernel_rfl) (by (first | (fail) | ((repeat (first | exact SetAt.here | apply SetAt.there)); first | done | fail))) ?_ | refine sl_store_whole rfl (by ((repeat (first | exact Pick.here | apply Pick.there)); first | done | fail)) rfl (by (first | rfl | (rfl; first | done | fail))) (by (first | rfl | (rfl; first | done | fail))) (by (first | assumption | exact one_bytes _ | (simp only [List.mem_cons, List.not_mem_nil, or_false, forall_eq_or_imp, forall_eq]; decide) | exact one_bytes _ | (intro v hv; (repeat (rcases List.mem_cons.1 hv with rfl | hv; rfl)); cases hv))) ?_))))
  refine sl_pu (pu_ext (cap := []) rfl rfl (fun W hW => run_cmp (hx W hW) hxb (hy W hW) hyb)) rfl ?_
  (repeat (first | (first | refine sl_pu (PuI.sep ((by (constructor; (repeat (first | rfl | exact .t | exact .f | exact .t (by omega) | exact .f (by omega) | exact .u | exact .i (by (first | exact .t (by omega) | exact .f (by omega) | exact .u | exact .i (by omega) | exact .v (by omega) | exact .b (by omega) | exact .w | rfl | omega)) | exact .v (by omega) | exact .b (by omega) | exact .q (by omega) | exact .w | exact .b (by ((repeat (first | exact At.here | assumption | refine At.there ?_)); first | done | fail)) rfl (by (first | rfl | first | exact hnx | exact hny)) | exact .w (by ((repeat (first | exact At.here | assumption | refine At.there ?_)); first | done | fail)) rfl rfl (by (first | rfl | (rfl; first | done | fail))) | exact .s (by ((repeat (first | exact At.here | assumption | refine At.there ?_)); first | done | fail)) (by (first | exact Mid.all | exact Mid.all | exact Mid.head)) rfl rfl (by (first | rfl | (rfl; first | done | fail))) | exact .z rfl rfl ⟨by kernel_rfl⟩ | exact .b rfl rfl ⟨by kernel_rfl⟩ | exact .a rfl rfl ⟨by kernel_rfl⟩ | exact .o rfl | exact .s | exact .n | exact .p rfl | exact .q rfl | exact .c rfl | exact .d rfl | exact .n rfl rfl (by omega) | exact .a rfl rfl (by omega) | exact .p rfl rfl (by omega) (by omega) | exact .y rfl rfl (by omega) (by omega) | exact .o (by ((repeat (first | exact At.here | assumption | refine At.there ?_)); first | done | fail)) (by omega) rfl (by (first | rfl | first | exact hnx | exact hny)) | exact .m (by ((repeat (first | exact At.here | assumption | refine At.there ?_)); first | done | fail)) (by omega) (by (first | exact Mid.all | exact Mid.all | exact Mid.head)) rfl rfl (by (first | rfl | (rfl; first | done | fail))) | exact .mlen (by ((repeat (first | exact At.here | assumption | refine At.there ?_)); first | done | fail)) rfl | exact .r rfl rfl | exact .h rfl rfl rfl (by omega) | exact .l rfl rfl rfl (by omega) (by omega) | exact .g rfl rfl rfl rfl (by omega) (by omega) | exact .o (by decide) | exact .f (by decide) | exact .n (by omega) (by first | decide | (show _ ≤ ((64 : Nat) : Int); omega)) | (constructor; (repeat (first | exact .t (by omega) | exact .f (by omega) | exact .u | exact .i (by omega) | exact .v (by omega) | exact .b (by omega) | exact .w | rfl | omega)); first | done | fail) | omega | (show _ ≤ ((64 : Nat) : Int); omega))); first | done | fail)))) rfl ?_ | refine sl_yes rfl rfl ?_ | refine sl_no rfl rfl rfl ?_ | refine sl_off rfl rfl rfl ?_) | (first | refine sc_seq ?_ | refine sc_region ?_ | refine sl_nil ?_ | refine se_seq ?_ | refine sc_cond rfl (by constructor) ?_ | refine sc_skip ?_ | refine sc_block ?_ | refine se_blk (by first | exact .n | exact .h | exact .m rfl | exact .r | exact .p) ?_ | refine sc_exit ?_ | refine se_pass (by constructor) ?_ | refine sc_ret ?_) | ((first | refine sl_store rfl (by ((repeat (first | exact Pick.here | apply Pick.there)); first | done | fail)) rfl rfl (by kernel_rfl) (by (first | (fail) | ((repeat (first | exact SetAt.here | apply SetAt.there)); first | done | fail))) ?_ | refine sl_store_whole rfl (by ((repeat (first | exact Pick.here | apply Pick.there)); first | done | fail)) rfl (by (first | rfl | (rfl; first | done | fail))) (by (first | rfl | (rfl; first | done | fail))) (by (first | assumption | exact one_bytes _ | (simp only [List.mem_cons, List.not_mem_nil, or_false, forall_eq_or_imp, forall_eq]; decide) | exact one_bytes _ | (intro v hv; (repeat (rcases List.mem_cons.1 hv with rfl | hv; rfl)); cases hv))) ?_))))
  exact se_ret1 () trivial rfl rfl Sub.refl

set_option maxRecDepth 100000 in
theorem Compare_ok {K : List Fa} (a b : Id) :
    Fn Tryz.prog 116 #[a.v, b.v] K (Ret (fun _ : Unit => True) (fun _ => .int .i64 (cmpI a.l b.l)) (fun _ => K)) := by
  refine fn_enter Tryz.func116 rfl _ Tryz.ntmps116 (by simp) [(0, a.v), (1, b.v)] (args_of (by simp)) ?_
  (repeat (first | (first | refine sl_pu (PuI.sep ((by (constructor; (repeat (first | rfl | exact .t | exact .f | exact .t (by omega) | exact .f (by omega) | exact .u | exact .i (by (first | exact .t (by omega) | exact .f (by omega) | exact .u | exact .i (by omega) | exact .v (by omega) | exact .b (by omega) | exact .w | rfl | omega)) | exact .v (by omega) | exact .b (by omega) | exact .q (by omega) | exact .w | exact .b (by ((repeat (first | exact At.here | assumption | refine At.there ?_)); first | done | fail)) rfl (by (first | rfl | first | exact hnx | exact hny)) | exact .w (by ((repeat (first | exact At.here | assumption | refine At.there ?_)); first | done | fail)) rfl rfl (by (first | rfl | (rfl; first | done | fail))) | exact .s (by ((repeat (first | exact At.here | assumption | refine At.there ?_)); first | done | fail)) (by (first | exact Mid.all | exact Mid.all | exact Mid.head)) rfl rfl (by (first | rfl | (rfl; first | done | fail))) | exact .z rfl rfl ⟨by kernel_rfl⟩ | exact .b rfl rfl ⟨by kernel_rfl⟩ | exact .a rfl rfl ⟨by kernel_rfl⟩ | exact .o rfl | exact .s | exact .n | exact .p rfl | exact .q rfl | exact .c rfl | exact .d rfl | exact .n rfl rfl (by omega) | exact .a rfl rfl (by omega) | exact .p rfl rfl (by omega) (by omega) | exact .y rfl rfl (by omega) (by omega) | exact .o (by ((repeat (first | exact At.here | assumption | refine At.there ?_)); first | done | fail)) (by omega) rfl (by (first | rfl | first | exact hnx | exact hny)) | exact .m (by ((repeat (first | exact At.here | assumption | refine At.there ?_)); first | done | fail)) (by omega) (by (first | exact Mid.all | exact Mid.all | exact Mid.head)) rfl rfl (by (first | rfl | (rfl; first | done | fail))) | exact .mlen (by ((repeat (first | exact At.here | assumption | refine At.there ?_)); first | done | fail)) rfl | exact .r rfl rfl | exact .h rfl rfl rfl (by omega) | exact .l rfl rfl rfl (by omega) (by omega) | exact .g rfl rfl rfl rfl (by omega) (by omega) | exact .o (by decide) | exact .f (by decide) | exact .n (by omega) (by first | decide | (show _ ≤ ((64 : Nat) : Int); omega)) | (constructor; (repeat (first | exact .t (by omega) | exact .f (by omega) | exact .u | exact .i (by omega) | exact .v (by omega) | exact .b (by omega) | exact .w | rfl | omega)); first | done | fail) | omega | (show _ ≤ ((64 : Nat) : Int); omega))); first | done | fail)))) rfl ?_ | refine sl_yes rfl rfl ?_ | refine sl_no rfl rfl rfl ?_ | refine sl_off rfl rfl rfl ?_) | (first | refine sc_seq ?_ | refine sc_region ?_ | refine sl_nil ?_ | refine se_seq ?_ | refine sc_cond rfl (by constructor) ?_ | refine sc_skip ?_ | refine sc_block ?_ | refine se_blk (by first | exact .n | exact .h | exact .m rfl | exact .r | exact .p) ?_ | refine sc_exit ?_ | refine se_pass (by constructor) ?_ | refine sc_ret ?_) | ((first | refine sl_store rfl (by ((repeat (first | exact Pick.here | apply Pick.there)); first | done | fail)) rfl rfl (by kernel_rfl) (by (first | (fail) | ((repeat (first | exact SetAt.here | apply SetAt.there)); first | done | fail))) ?_ | refine sl_store_whole rfl (by ((repeat (first | exact Pick.here | apply Pick.there)); first | done | fail)) rfl (by (first | rfl | (rfl; first | done | fail))) (by (first | rfl | (rfl; first | done | fail))) (by (first | assumption | exact one_bytes _ | (simp only [List.mem_cons, List.not_mem_nil, or_false, forall_eq_or_imp, forall_eq]; decide) | exact one_bytes _ | (intro v hv; (repeat (rcases List.mem_cons.1 hv with rfl | hv; rfl)); cases hv))) ?_))))
  refine sl_box rfl rfl rfl ?_; intro ga
  refine sl_box rfl rfl rfl ?_; intro gb
  (repeat (first | (first | refine sl_pu (PuI.sep ((by (constructor; (repeat (first | rfl | exact .t | exact .f | exact .t (by omega) | exact .f (by omega) | exact .u | exact .i (by (first | exact .t (by omega) | exact .f (by omega) | exact .u | exact .i (by omega) | exact .v (by omega) | exact .b (by omega) | exact .w | rfl | omega)) | exact .v (by omega) | exact .b (by omega) | exact .q (by omega) | exact .w | exact .b (by ((repeat (first | exact At.here | assumption | refine At.there ?_)); first | done | fail)) rfl (by (first | rfl | first | exact hnx | exact hny)) | exact .w (by ((repeat (first | exact At.here | assumption | refine At.there ?_)); first | done | fail)) rfl rfl (by (first | rfl | (rfl; first | done | fail))) | exact .s (by ((repeat (first | exact At.here | assumption | refine At.there ?_)); first | done | fail)) (by (first | exact Mid.all | exact Mid.all | exact Mid.head)) rfl rfl (by (first | rfl | (rfl; first | done | fail))) | exact .z rfl rfl ⟨by kernel_rfl⟩ | exact .b rfl rfl ⟨by kernel_rfl⟩ | exact .a rfl rfl ⟨by kernel_rfl⟩ | exact .o rfl | exact .s | exact .n | exact .p rfl | exact .q rfl | exact .c rfl | exact .d rfl | exact .n rfl rfl (by omega) | exact .a rfl rfl (by omega) | exact .p rfl rfl (by omega) (by omega) | exact .y rfl rfl (by omega) (by omega) | exact .o (by ((repeat (first | exact At.here | assumption | refine At.there ?_)); first | done | fail)) (by omega) rfl (by (first | rfl | first | exact hnx | exact hny)) | exact .m (by ((repeat (first | exact At.here | assumption | refine At.there ?_)); first | done | fail)) (by omega) (by (first | exact Mid.all | exact Mid.all | exact Mid.head)) rfl rfl (by (first | rfl | (rfl; first | done | fail))) | exact .mlen (by ((repeat (first | exact At.here | assumption | refine At.there ?_)); first | done | fail)) rfl | exact .r rfl rfl | exact .h rfl rfl rfl (by omega) | exact .l rfl rfl rfl (by omega) (by omega) | exact .g rfl rfl rfl rfl (by omega) (by omega) | exact .o (by decide) | exact .f (by decide) | exact .n (by omega) (by first | decide | (show _ ≤ ((64 : Nat) : Int); omega)) | (constructor; (repeat (first | exact .t (by omega) | exact .f (by omega) | exact .u | exact .i (by omega) | exact .v (by omega) | exact .b (by omega) | exact .w | rfl | omega)); first | done | fail) | omega | (show _ ≤ ((64 : Nat) : Int); omega))); first | done | fail)))) rfl ?_ | refine sl_yes rfl rfl ?_ | refine sl_no rfl rfl rfl ?_ | refine sl_off rfl rfl rfl ?_) | (first | refine sc_seq ?_ | refine sc_region ?_ | refine sl_nil ?_ | refine se_seq ?_ | refine sc_cond rfl (by constructor) ?_ | refine sc_skip ?_ | refine sc_block ?_ | refine se_blk (by first | exact .n | exact .h | exact .m rfl | exact .r | exact .p) ?_ | refine sc_exit ?_ | refine se_pass (by constructor) ?_ | refine sc_ret ?_) | ((first | refine sl_store rfl (by ((repeat (first | exact Pick.here | apply Pick.there)); first | done | fail)) rfl rfl (by kernel_rfl) (by (first | (fail) | ((repeat (first | exact SetAt.here | apply SetAt.there)); first | done | fail))) ?_ | refine sl_store_whole rfl (by ((repeat (first | exact Pick.here | apply Pick.there)); first | done | fail)) rfl (by (first | rfl | (rfl; first | done | fail))) (by (first | rfl | (rfl; first | done | fail))) (by (first | assumption | exact one_bytes _ | (simp only [List.mem_cons, List.not_mem_nil, or_false, forall_eq_or_imp, forall_eq]; decide) | exact one_bytes _ | (intro v hv; (repeat (rcases List.mem_cons.1 hv with rfl | hv; rfl)); cases hv))) ?_))))
  refine sd_drawn (fun _ => True) (fun _ => true) (by kernel_rfl) 4 rfl ?_
  refine sd_take 0 rfl (by kernel_rfl) (by (repeat (first | exact nop_body | refine nop_then ?_ | refine nop_block ?_))) (pu_slice_arr rfl rfl rfl) rfl (fun _ _ => trivial) ?_
  refine sd_take 1 rfl (by kernel_rfl) (by (repeat (first | exact nop_body | refine nop_then ?_ | refine nop_block ?_))) (pu_slice_arr rfl rfl rfl) rfl (fun _ _ => trivial) ?_
  refine sd_call 2 (by kernel_rfl) rfl rfl rfl (by kernel_rfl) rfl Sub.refl (BytesCompare_ok (Vw.of_blk (by ((repeat (first | exact At.here | assumption | refine At.there ?_)); first | done | fail)) (by rw [bytes_length, a.len])) a.ok (Vw.of_blk (by ((repeat (first | exact At.here | assumption | refine At.there ?_)); first | done | fail)) (by rw [bytes_length, b.len])) b.ok) (fun _ _ _ _ => trivial) ?_
  rintro _ -
  refine sd_pu 3 (by kernel_rfl) rfl (pu_assign rfl) rfl (fun _ _ _ => trivial) ?_
  refine sd_done (by kernel_rfl) ?_
  (repeat (first | (first | refine sl_pu (PuI.sep ((by (constructor; (repeat (first | rfl | exact .t | exact .f | exact .t (by omega) | exact .f (by omega) | exact .u | exact .i (by (first | exact .t (by omega) | exact .f (by omega) | exact .u | exact .i (by omega) | exact .v (by omega) | exact .b (by omega) | exact .w | rfl | omega)) | exact .v (by omega) | exact .b (by omega) | exact .q (by omega) | exact .w | exact .b (by ((repeat (first | exact At.here | assumption | refine At.there ?_)); first | done | fail)) rfl (by (first | rfl | first | exact hnx | exact hny)) | exact .w (by ((repeat (first | exact At.here | assumption | refine At.there ?_)); first | done | fail)) rfl rfl (by (first | rfl | (rfl; first | done | fail))) | exact .s (by ((repeat (first | exact At.here | assumption | refine At.there ?_)); first | done | fail)) (by (first | exact Mid.all | exact Mid.all | exact Mid.head)) rfl rfl (by (first | rfl | (rfl; first | done | fail))) | exact .z rfl rfl ⟨by kernel_rfl⟩ | exact .b rfl rfl ⟨by kernel_rfl⟩ | exact .a rfl rfl ⟨by kernel_rfl⟩ | exact .o rfl | exact .s | exact .n | exact .p rfl | exact .q rfl | exact .c rfl | exact .d rfl | exact .n rfl rfl (by omega) | exact .a rfl rfl (by omega) | exact .p rfl rfl (by omega) (by omega) | exact .y rfl rfl (by omega) (by omega) | exact .o (by ((repeat (first | exact At.here | assumption | refine At.there ?_)); first | done | fail)) (by omega) rfl (by (first | rfl | first | exact hnx | exact hny)) | exact .m (by ((repeat (first | exact At.here | assumption | refine At.there ?_)); first | done | fail)) (by omega) (by (first | exact Mid.all | exact Mid.all | exact Mid.head)) rfl rfl (by (first | rfl | (rfl; first | done | fail))) | exact .mlen (by ((repeat (first | exact At.here | assumption | refine At.there ?_)); first | done | fail)) rfl | exact .r rfl rfl | exact .h rfl rfl rfl (by omega) | exact .l rfl rfl rfl (by omega) (by omega) | exact .g rfl rfl rfl rfl (by omega) (by omega) | exact .o (by decide) | exact .f (by decide) | exact .n (by omega) (by first | decide | (show _ ≤ ((64 : Nat) : Int); omega)) | (constructor; (repeat (first | exact .t (by omega) | exact .f (by omega) | exact .u | exact .i (by omega) | exact .v (by omega) | exact .b (by omega) | exact .w | rfl | omega)); first | done | fail) | omega | (show _ ≤ ((64 : Nat) : Int); omega))); first | done | fail)))) rfl ?_ | refine sl_yes rfl rfl ?_ | refine sl_no rfl rfl rfl ?_ | refine sl_off rfl rfl rfl ?_) | (first | refine sc_seq ?_ | refine sc_region ?_ | refine sl_nil ?_ | refine se_seq ?_ | refine sc_cond rfl (by constructor) ?_ | refine sc_skip ?_ | refine sc_block ?_ | refine se_blk (by first | exact .n | exact .h | exact .m rfl | exact .r | exact .p) ?_ | refine sc_exit ?_ | refine se_pass (by constructor) ?_ | refine sc_ret ?_) | ((first | refine sl_store rfl (by ((repeat (first | exact Pick.here | apply Pick.there)); first | done | fail)) rfl rfl (by kernel_rfl) (by (first | (fail) | ((repeat (first | exact SetAt.here | apply SetAt.there)); first | done | fail))) ?_ | refine sl_store_whole rfl (by ((repeat (first | exact Pick.here | apply Pick.there)); first | done | fail)) rfl (by (first | rfl | (rfl; first | done | fail))) (by (first | rfl | (rfl; first | done | fail))) (by (first | assumption | exact one_bytes _ | (simp only [List.mem_cons, List.not_mem_nil, or_false, forall_eq_or_imp, forall_eq]; decide) | exact one_bytes _ | (intro v hv; (repeat (rcases List.mem_cons.1 hv with rfl | hv; rfl)); cases hv))) ?_))))
  exact se_ret1 () trivial rfl rfl (by ((repeat (first | exact Sub.refl | exact Sub.nil | (apply Sub.cons; (repeat (first | exact Pick.here | apply Pick.there)); show Sub _ _) | apply Sub.skip)); first | done | fail))

end Go.Proofs.YtocaabnbmcpjmaaGreatDoor
