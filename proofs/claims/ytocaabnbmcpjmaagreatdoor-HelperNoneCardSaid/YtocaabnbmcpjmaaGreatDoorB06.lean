/- Several texts of one claim, one behind the other (Rq1, Rq2, Rq3, Rq4, Rq5, Rq6, Ro1). -/
import Derived.Test.YtocaabnbmcpjmaaGreatDoorRows
import Derived.Test.YtocaabnbmcpjmaaGreatDoorB05
import Derived.Test.YtocaabnbmcpjmaaGreatDoorB03
import Derived.Lib.Bytealg
import Derived.Test.YtocaabnbmcpjmaaGreatDoorB04
set_option linter.unusedVariables false
set_option linter.unusedSimpArgs false
/- Which of two ids comes first: bytes.Compare, replay.Compare, the law's less. -/
namespace Go.Proofs.YtocaabnbmcpjmaaGreatDoor
open Go.RowKit
attribute [local irreducible] Go.Calls Go.Exit.then Go.Exit.inBlock Go.bodyPost Go.Code.wp Go.wpList

/-- -1, 0, 1. -/
def cmpI : List Int → List Int → Int
  | [], [] => 0
  | [], _ :: _ => -1
  | _ :: _, [] => 1
  | x :: xs, y :: ys => if x < y then -1 else if y < x then 1 else cmpI xs ys

theorem run_loadBytes {P : Program} {w : World} : ∀ (xs : List Int) (a : Addr) (acc : ByteArray), IsBytes xs → (∀ j u, (bytes xs)[j]? = some u → w.cell? (a.add j) = some u) →
    (Extern.Bytes.loadBytes a xs.length acc).run P w = .ok ⟨acc.data ++ (u8s xs).toArray⟩ w
  | [], a, acc, _, _ => by simp [Extern.Bytes.loadBytes, u8s]
  | x :: xs, a, acc, hb, hc => by
    have h0 : w.cell? a = some (.int .u8 x) := by
      have := hc 0 (.int .u8 x) rfl
      simpa [Addr.add] using this
    have ih := run_loadBytes (P := P) (w := w) xs (a.add 1) (acc.push x.toNat.toUInt8) (fun z hz => hb z (List.mem_cons_of_mem _ hz)) (fun j u hu => by
      rw [add_twice, Nat.add_comm]
      exact hc (j + 1) u (by simpa [bytes] using hu))
    rw [List.length_cons, Extern.Bytes.loadBytes, Sem.run_bind]
    simp only [load, Sem.run, h0, Result.andThen_ok]
    rw [ih]
    congr 2
    simp [u8s, ByteArray.push]
theorem run_bytesOf {P : Program} {w : World} {A : Option Addr} {n c : Nat} {xs : List Int} (hr : Reads w 1 A n (bytes xs)) (hb : IsBytes xs) : (Extern.Bytes.bytesOf (.slice A n c)).run P w = .ok ⟨(u8s xs).toArray⟩ w := by
  have hl : xs.length = n := by have := hr.1; simpa [bytes] using this
  cases A with
  | none =>
    have : n = 0 := by
      rcases Nat.eq_zero_or_pos n with h | h
      · exact h
      · obtain ⟨_, h2, _⟩ := hr.2 h
        cases h2
    subst this
    obtain rfl := List.eq_nil_of_length_eq_zero hl
    rfl
  | some ad =>
    subst hl
    have hc : ∀ j u, (bytes xs)[j]? = some u → w.cell? (ad.add j) = some u := by
      intro j u hu
      rcases Nat.eq_zero_or_pos xs.length with h | h
      · obtain rfl := List.eq_nil_of_length_eq_zero h
        simp [bytes] at hu
      · obtain ⟨ad', h1, h2⟩ := hr.2 h
        injection h1 with h1
        subst h1
        exact h2 j u hu
    have h := run_loadBytes (P := P) (w := w) xs ad .empty hb hc
    show (Extern.Bytes.loadBytes ad xs.length .empty).run P w = _
    rw [h]
    simp [ByteArray.empty, ByteArray.emptyWithCapacity]
    rfl

theorem cmp_u8s : ∀ {xs ys : List Int}, IsBytes xs → IsBytes ys → Lib.compareBytes (u8s xs) (u8s ys) = cmpI xs ys
  | [], [], _, _ => rfl
  | [], _ :: _, _, _ => rfl
  | _ :: _, [], _, _ => rfl
  | x :: xs, y :: ys, h, h' => by
    have ih := cmp_u8s (xs := xs) (ys := ys) (fun z hz => h z (List.mem_cons_of_mem _ hz)) (fun z hz => h' z (List.mem_cons_of_mem _ hz))
    obtain ⟨a0, a1⟩ := h x (List.mem_cons_self ..)
    obtain ⟨b0, b1⟩ := h' y (List.mem_cons_self ..)
    show Lib.compareBytes (UInt8.ofNat x.toNat :: u8s xs) (UInt8.ofNat y.toNat :: u8s ys) = _
    have e1 : (UInt8.ofNat x.toNat < UInt8.ofNat y.toNat) ↔ x < y := by
      rw [UInt8.lt_iff_toNat_lt, UInt8.toNat_ofNat', UInt8.toNat_ofNat']
      omega
    have e2 : (UInt8.ofNat y.toNat < UInt8.ofNat x.toNat) ↔ y < x := by
      rw [UInt8.lt_iff_toNat_lt, UInt8.toNat_ofNat', UInt8.toNat_ofNat']
      omega
    rw [Lib.compareBytes, cmpI, ih]
    simp only [e1, e2]

theorem cmp_row (args : Array Value) (w : World) : (callFunc 162 args).run Tryz.prog w = (Extern.BytealgCompare.compare args >>= fun v => pure (Next.value v)).run Tryz.prog w := by kernel_rfl
theorem run_cmp {w : World} {A B : Option Addr} {n c m d : Nat} {xs ys : List Int} (hx : Reads w 1 A n (bytes xs)) (hxb : IsBytes xs) (hy : Reads w 1 B m (bytes ys)) (hyb : IsBytes ys) :
    (callFunc 162 #[.slice A n c, .slice B m d]).run Tryz.prog w = .ok (.value (.int .i64 (cmpI xs ys))) w := by
  rw [cmp_row]
  show Sem.run Tryz.prog ((do pure (goInt (Extern.BytealgCompare.cmp (← Extern.Bytes.bytesOf (.slice A n c)) (← Extern.Bytes.bytesOf (.slice B m d)))) : Sem Value) >>= fun v => pure (Next.value v)) w = _
  rw [Sem.run_bind, Sem.run_bind, run_bytesOf hx hxb, Result.andThen_ok, Sem.run_bind, run_bytesOf hy hyb, Result.andThen_ok, Lib.cmp_eq, cmp_u8s hxb hyb]
  rfl

set_option maxRecDepth 100000 in
theorem BytesCompare_ok {K : List Fa} {A B : Option Addr} {n c m d : Nat} {xs ys : List Int} (hx : Vw K (fun w => Reads w 1 A n (bytes xs))) (hxb : IsBytes xs) (hy : Vw K (fun w => Reads w 1 B m (bytes ys))) (hyb : IsBytes ys) :
    Fn Tryz.prog 138 #[.slice A n c, .slice B m d] K (Ret (fun _ : Unit => True) (fun _ => .int .i64 (cmpI xs ys)) (fun _ => K)) := by
  refine fn_enter Tryz.func138 rfl _ Tryz.ntmps138 (by simp) [(0, .slice A n c), (1, .slice B m d)] (args_of (by simp)) ?_
  (repeat (first | (first | refine sl_pu (PuI.sep ((by (constructor; (repeat (first | rfl | exact .t | exact .f | exact .t (by omega) | exact .f (by omega) | exact .u | exact .i (by (first | exact .t (by omega) | exact .f (by omega) | exact .u | exact .i (by omega) | exact .v (by omega) | exact .b (by omega) | exact .w | rfl | omega)) | exact .v (by omega) | exact .b (by omega) | exact .q (by omega) | exact .w | exact .b (by ((repeat (first | exact At.here | assumption | refine At.there ?_)); first | done | fail)) rfl (by (first | rfl | first | exact hnx | exact hny)) | exact .w (by ((repeat (first | exact At.here | assumption | refine At.there ?_)); first | done | fail)) rfl rfl (by (first | rfl | (rfl; first | done | fail))) | exact .s (by ((repeat (first | exact At.here | assumption | refine At.there ?_)); first | done | fail)) (by (first | exact Mid.all | exact Mid.all | exact Mid.head)) rfl rfl (by (first | rfl | (rfl; first | done | fail))) | exact .z rfl rfl ⟨by kernel_rfl⟩ | exact .b rfl rfl ⟨by kernel_rfl⟩ | exact .a rfl rfl ⟨by kernel_rfl⟩ | exact .o rfl | exact .s | exact .n | exact .p rfl | exact .q rfl | exact .c rfl | exact .d rfl | exact .n rfl rfl (by omega) | exact .a rfl rfl (by omega) | exact .p rfl rfl (by omega) (by omega) | exact .y rfl rfl (by omega) (by omega) | exact .o (by ((repeat (first | exact At.here | assumption | refine At.there ?_)); first | done | fail)) (by omega) rfl (by (first | rfl | first | exact hnx | exact hny)) | exact .m (by ((repeat (first | exact At.here | assumption | refine At.there ?_)); first | done | fail)) (by omega) (by (first | exact Mid.all | exact Mid.all | exact Mid.head)) rfl rfl (by (first | rfl | (rfl; first | done | fail))) | exact .mlen (by ((repeat (first | exact At.here | assumption | refine At.there ?_)); first | done | fail)) rfl | exact .r rfl rfl | exact .h rfl rfl rfl (by omega) | exact .l rfl rfl rfl (by omega) (by omega) | exact .g rfl rfl rfl rfl (by omega) (by omega) | exact .o (by decide) | exact .f (by decide) | exact .n (by omega) (by first | decide | (show _ ≤ ((64 : Nat) : Int); omega)) | (constructor; (repeat (first | exact .t (by omega) | exact .f (by omega) | exact .u | exact .i (by omega) | exact .v (by omega) | exact .b (by omega) | exact .w | rfl | omega)); first | done | fail) | omega | (show _ ≤ ((64 : Nat) : Int); omega))); first | done | fail)))) rfl ?_ | refine sl_yes rfl rfl ?_ | refine sl_no rfl rfl rfl ?_ | refine sl_off rfl rfl rfl ?_) | (first | refine sc_seq ?_ | refine sc_region ?_ | refine sl_nil ?_ | refine se_seq ?_ | refine sc_cond rfl (by constructor) ?_ | refine sc_skip ?_ | refine sc_block ?_ | refine se_blk (by first | exact .n | exact .h | exact .m rfl | exact .r | exact .p) ?_ | refine sc_exit ?_ | refine se_pass (by constructor) ?_ | refine sc_ret ?_) | ((first | refine sl_store rfl (by ((repeat (first | exact Pick.here | apply Pick.there)); first | done | fail)) rfl rfl (by kernel_rfl) (by (first | (fail) | ((repeat (first | exact SetAt.here | apply SetAt.there)); first | done | fail))) ?_ | refine sl_store_whole rfl (by ((repeat (first | exact Pick.here | apply Pick.there)); first | done | fail)) rfl (by (first | rfl | (rfl; first | done | fail))) (by (first | rfl | (rfl; first | done | fail))) (by (first | assumption | exact one_bytes _ | (simp only [List.mem_cons, List.not_mem_nil, or_false, forall_eq_or_imp, forall_eq]; decide) | exact one_bytes _ | (intro v hv; (repeat (rcases List.mem_cons.1 hv with rfl | hv; rfl)); cases hv))) ?_))))
  refine sl_pu (pu_ext (cap := []) rfl rfl (fun W hW => run_cmp (hx W hW) hxb (hy W hW) hyb)) rfl ?_
  (repeat (first | (first | refine sl_pu (PuI.sep ((by (constructor; (repeat (first | rfl | exact .t | exact .f | exact .t (by omega) | exact .f (by omega) | exact .u | exact .i (by (first | exact .t (by omega) | exact .f (by omega) | exact .u | exact .i (by omega) | exact .v (by omega) | exact .b (by omega) | exact .w | rfl | omega)) | exact .v (by omega) | exact .b (by omega) | exact .q (by omega) | exact .w | exact .b (by ((repeat (first | exact At.here | assumption | refine At.there ?_)); first | done | fail)) rfl (by (first | rfl | first | exact hnx | exact hny)) | exact .w (by ((repeat (first | exact At.here | assumption | refine At.there ?_)); first | done | fail)) rfl rfl (by (first | rfl | (rfl; first | done | fail))) | exact .s (by ((repeat (first | exact At.here | assumption | refine At.there ?_)); first | done | fail)) (by (first | exact Mid.all | exact Mid.all | exact Mid.head)) rfl rfl (by (first | rfl | (rfl; first | done | fail))) | exact .z rfl rfl ⟨by kernel_rfl⟩ | exact .b rfl rfl ⟨by kernel_rfl⟩ | exact .a rfl rfl ⟨by kernel_rfl⟩ | exact .o rfl | exact .s | exact .n | exact .p rfl | exact .q rfl | exact .c rfl | exact .d rfl | exact .n rfl rfl (by omega) | exact .a rfl rfl (by omega) | exact .p rfl rfl (by omega) (by omega) | exact .y rfl rfl (by omega) (by omega) | exact .o (by ((repeat (first | exact At.here | assumption | refine At.there ?_)); first | done | fail)) (by omega) rfl (by (first | rfl | first | exact hnx | exact hny)) | exact .m (by ((repeat (first | exact At.here | assumption | refine At.there ?_)); first | done | fail)) (by omega) (by (first | exact Mid.all | exact Mid.all | exact Mid.head)) rfl rfl (by (first | rfl | (rfl; first | done | fail))) | exact .mlen (by ((repeat (first | exact At.here | assumption | refine At.there ?_)); first | done | fail)) rfl | exact .r rfl rfl | exact .h rfl rfl rfl (by omega) | exact .l rfl rfl rfl (by omega) (by omega) | exact .g rfl rfl rfl rfl (by omega) (by omega) | exact .o (by decide) | exact .f (by decide) | exact .n (by omega) (by first | decide | (show _ ≤ ((64 : Nat) : Int); omega)) | (constructor; (repeat (first | exact .t (by omega) | exact .f (by omega) | exact .u | exact .i (by omega) | exact .v (by omega) | exact .b (by omega) | exact .w | rfl | omega)); first | done | fail) | omega | (show _ ≤ ((64 : Nat) : Int); omega))); first | done | fail)))) rfl ?_ | refine sl_yes rfl rfl ?_ | refine sl_no rfl rfl rfl ?_ | refine sl_off rfl rfl rfl ?_) | (first | refine sc_seq ?_ | refine sc_region ?_ | refine sl_nil ?_ | refine se_seq ?_ | refine sc_cond rfl (by constructor) ?_ | refine sc_skip ?_ | refine sc_block ?_ | refine se_blk (by first | exact .n | exact .h | exact .m rfl | exact .r | exact .p) ?_ | refine sc_exit ?_ | refine se_pass (by constructor) ?_ | refine sc_ret ?_) | ((first | refine sl_store rfl (by ((repeat (first | exact Pick.here | apply Pick.there)); first | done | fail)) rfl rfl (by kernel_rfl) (by (first | (fail) | ((repeat (first | exact SetAt.here | apply SetAt.there)); first | done | fail))) ?_ | refine sl_store_whole rfl (by ((repeat (first | exact Pick.here | apply Pick.there)); first | done | fail)) rfl (by (first | rfl | (rfl; first | done | fail))) (by (first | rfl | (rfl; first | done | fail))) (by (first | assumption | exact one_bytes _ | (simp only [List.mem_cons, List.not_mem_nil, or_false, forall_eq_or_imp, forall_eq]; decide) | exact one_bytes _ | (intro v hv; (repeat (rcases List.mem_cons.1 hv with rfl | hv; rfl)); cases hv))) ?_))))
  exact se_ret1 () trivial rfl rfl Sub.refl

set_option maxRecDepth 100000 in
theorem Compare_ok {K : List Fa} (a b : Id) :
    Fn Tryz.prog 116 #[a.v, b.v] K (Ret (fun _ : Unit => True) (fun _ => .int .i64 (cmpI a.l b.l)) (fun _ => K)) := by
  refine fn_enter Tryz.func116 rfl _ Tryz.ntmps116 (by simp) [(0, a.v), (1, b.v)] (args_of (by simp)) ?_
  (repeat (first | (first | refine sl_pu (PuI.sep ((by (constructor; (repeat (first | rfl | exact .t | exact .f | exact .t (by omega) | exact .f (by omega) | exact .u | exact .i (by (first | exact .t (by omega) | exact .f (by omega) | exact .u | exact .i (by omega) | exact .v (by omega) | exact .b (by omega) | exact .w | rfl | omega)) | exact .v (by omega) | exact .b (by omega) | exact .q (by omega) | exact .w | exact .b (by ((repeat (first | exact At.here | assumption | refine At.there ?_)); first | done | fail)) rfl (by (first | rfl | first | exact hnx | exact hny)) | exact .w (by ((repeat (first | exact At.here | assumption | refine At.there ?_)); first | done | fail)) rfl rfl (by (first | rfl | (rfl; first | done | fail))) | exact .s (by ((repeat (first | exact At.here | assumption | refine At.there ?_)); first | done | fail)) (by (first | exact Mid.all | exact Mid.all | exact Mid.head)) rfl rfl (by (first | rfl | (rfl; first | done | fail))) | exact .z rfl rfl ⟨by kernel_rfl⟩ | exact .b rfl rfl ⟨by kernel_rfl⟩ | exact .a rfl rfl ⟨by kernel_rfl⟩ | exact .o rfl | exact .s | exact .n | exact .p rfl | exact .q rfl | exact .c rfl | exact .d rfl | exact .n rfl rfl (by omega) | exact .a rfl rfl (by omega) | exact .p rfl rfl (by omega) (by omega) | exact .y rfl rfl (by omega) (by omega) | exact .o (by ((repeat (first | exact At.here | assumption | refine At.there ?_)); first | done | fail)) (by omega) rfl (by (first | rfl | first | exact hnx | exact hny)) | exact .m (by ((repeat (first | exact At.here | assumption | refine At.there ?_)); first | done | fail)) (by omega) (by (first | exact Mid.all | exact Mid.all | exact Mid.head)) rfl rfl (by (first | rfl | (rfl; first | done | fail))) | exact .mlen (by ((repeat (first | exact At.here | assumption | refine At.there ?_)); first | done | fail)) rfl | exact .r rfl rfl | exact .h rfl rfl rfl (by omega) | exact .l rfl rfl rfl (by omega) (by omega) | exact .g rfl rfl rfl rfl (by omega) (by omega) | exact .o (by decide) | exact .f (by decide) | exact .n (by omega) (by first | decide | (show _ ≤ ((64 : Nat) : Int); omega)) | (constructor; (repeat (first | exact .t (by omega) | exact .f (by omega) | exact .u | exact .i (by omega) | exact .v (by omega) | exact .b (by omega) | exact .w | rfl | omega)); first | done | fail) | omega | (show _ ≤ ((64 : Nat) : Int); omega))); first | done | fail)))) rfl ?_ | refine sl_yes rfl rfl ?_ | refine sl_no rfl rfl rfl ?_ | refine sl_off rfl rfl rfl ?_) | (first | refine sc_seq ?_ | refine sc_region ?_ | refine sl_nil ?_ | refine se_seq ?_ | refine sc_cond rfl (by constructor) ?_ | refine sc_skip ?_ | refine sc_block ?_ | refine se_blk (by first | exact .n | exact .h | exact .m rfl | exact .r | exact .p) ?_ | refine sc_exit ?_ | refine se_pass (by constructor) ?_ | refine sc_ret ?_) | ((first | refine sl_store rfl (by ((repeat (first | exact Pick.here | apply Pick.there)); first | done | fail)) rfl rfl (by kernel_rfl) (by (first | (fail) | ((repeat (first | exact SetAt.here | apply SetAt.there)); first | done | fail))) ?_ | refine sl_store_whole rfl (by ((repeat (first | exact Pick.here | apply Pick.there)); first | done | fail)) rfl (by (first | rfl | (rfl; first | done | fail))) (by (first | rfl | (rfl; first | done | fail))) (by (first | assumption | exact one_bytes _ | (simp only [List.mem_cons, List.not_mem_nil, or_false, forall_eq_or_imp, forall_eq]; decide) | exact one_bytes _ | (intro v hv; (repeat (rcases List.mem_cons.1 hv with rfl | hv; rfl)); cases hv))) ?_))))
  refine sl_box rfl rfl rfl ?_; intro ga
  refine sl_box rfl rfl rfl ?_; intro gb
  (repeat (first | (first | refine sl_pu (PuI.sep ((by (constructor; (repeat (first | rfl | exact .t | exact .f | exact .t (by omega) | exact .f (by omega) | exact .u | exact .i (by (first | exact .t (by omega) | exact .f (by omega) | exact .u | exact .i (by omega) | exact .v (by omega) | exact .b (by omega) | exact .w | rfl | omega)) | exact .v (by omega) | exact .b (by omega) | exact .q (by omega) | exact .w | exact .b (by ((repeat (first | exact At.here | assumption | refine At.there ?_)); first | done | fail)) rfl (by (first | rfl | first | exact hnx | exact hny)) | exact .w (by ((repeat (first | exact At.here | assumption | refine At.there ?_)); first | done | fail)) rfl rfl (by (first | rfl | (rfl; first | done | fail))) | exact .s (by ((repeat (first | exact At.here | assumption | refine At.there ?_)); first | done | fail)) (by (first | exact Mid.all | exact Mid.all | exact Mid.head)) rfl rfl (by (first | rfl | (rfl; first | done | fail))) | exact .z rfl rfl ⟨by kernel_rfl⟩ | exact .b rfl rfl ⟨by kernel_rfl⟩ | exact .a rfl rfl ⟨by kernel_rfl⟩ | exact .o rfl | exact .s | exact .n | exact .p rfl | exact .q rfl | exact .c rfl | exact .d rfl | exact .n rfl rfl (by omega) | exact .a rfl rfl (by omega) | exact .p rfl rfl (by omega) (by omega) | exact .y rfl rfl (by omega) (by omega) | exact .o (by ((repeat (first | exact At.here | assumption | refine At.there ?_)); first | done | fail)) (by omega) rfl (by (first | rfl | first | exact hnx | exact hny)) | exact .m (by ((repeat (first | exact At.here | assumption | refine At.there ?_)); first | done | fail)) (by omega) (by (first | exact Mid.all | exact Mid.all | exact Mid.head)) rfl rfl (by (first | rfl | (rfl; first | done | fail))) | exact .mlen (by ((repeat (first | exact At.here | assumption | refine At.there ?_)); first | done | fail)) rfl | exact .r rfl rfl | exact .h rfl rfl rfl (by omega) | exact .l rfl rfl rfl (by omega) (by omega) | exact .g rfl rfl rfl rfl (by omega) (by omega) | exact .o (by decide) | exact .f (by decide) | exact .n (by omega) (by first | decide | (show _ ≤ ((64 : Nat) : Int); omega)) | (constructor; (repeat (first | exact .t (by omega) | exact .f (by omega) | exact .u | exact .i (by omega) | exact .v (by omega) | exact .b (by omega) | exact .w | rfl | omega)); first | done | fail) | omega | (show _ ≤ ((64 : Nat) : Int); omega))); first | done | fail)))) rfl ?_ | refine sl_yes rfl rfl ?_ | refine sl_no rfl rfl rfl ?_ | refine sl_off rfl rfl rfl ?_) | (first | refine sc_seq ?_ | refine sc_region ?_ | refine sl_nil ?_ | refine se_seq ?_ | refine sc_cond rfl (by constructor) ?_ | refine sc_skip ?_ | refine sc_block ?_ | refine se_blk (by first | exact .n | exact .h | exact .m rfl | exact .r | exact .p) ?_ | refine sc_exit ?_ | refine se_pass (by constructor) ?_ | refine sc_ret ?_) | ((first | refine sl_store rfl (by ((repeat (first | exact Pick.here | apply Pick.there)); first | done | fail)) rfl rfl (by kernel_rfl) (by (first | (fail) | ((repeat (first | exact SetAt.here | apply SetAt.there)); first | done | fail))) ?_ | refine sl_store_whole rfl (by ((repeat (first | exact Pick.here | apply Pick.there)); first | done | fail)) rfl (by (first | rfl | (rfl; first | done | fail))) (by (first | rfl | (rfl; first | done | fail))) (by (first | assumption | exact one_bytes _ | (simp only [List.mem_cons, List.not_mem_nil, or_false, forall_eq_or_imp, forall_eq]; decide) | exact one_bytes _ | (intro v hv; (repeat (rcases List.mem_cons.1 hv with rfl | hv; rfl)); cases hv))) ?_))))
  refine sd_drawn (fun _ => True) (fun _ => true) (by kernel_rfl) 4 rfl ?_
  refine sd_take 0 rfl (by kernel_rfl) (by (repeat (first | exact nop_body | refine nop_then ?_ | refine nop_block ?_))) (pu_slice_arr rfl rfl rfl) rfl (fun _ _ => trivial) ?_
  refine sd_take 1 rfl (by kernel_rfl) (by (repeat (first | exact nop_body | refine nop_then ?_ | refine nop_block ?_))) (pu_slice_arr rfl rfl rfl) rfl (fun _ _ => trivial) ?_
  refine sd_call 2 (by kernel_rfl) rfl rfl rfl (by kernel_rfl) rfl Sub.refl (BytesCompare_ok (Vw.of_blk (by ((repeat (first | exact At.here | assumption | refine At.there ?_)); first | done | fail)) (by rw [bytes_length, a.len])) a.ok (Vw.of_blk (by ((repeat (first | exact At.here | assumption | refine At.there ?_)); first | done | fail)) (by rw [bytes_length, b.len])) b.ok) (fun _ _ _ _ => trivial) ?_
  rintro _ -
  refine sd_pu 3 (by kernel_rfl) rfl (pu_assign rfl) rfl (fun _ _ _ => trivial) ?_
  refine sd_done (by kernel_rfl) ?_
  (repeat (first | (first | refine sl_pu (PuI.sep ((by (constructor; (repeat (first | rfl | exact .t | exact .f | exact .t (by omega) | exact .f (by omega) | exact .u | exact .i (by (first | exact .t (by omega) | exact .f (by omega) | exact .u | exact .i (by omega) | exact .v (by omega) | exact .b (by omega) | exact .w | rfl | omega)) | exact .v (by omega) | exact .b (by omega) | exact .q (by omega) | exact .w | exact .b (by ((repeat (first | exact At.here | assumption | refine At.there ?_)); first | done | fail)) rfl (by (first | rfl | first | exact hnx | exact hny)) | exact .w (by ((repeat (first | exact At.here | assumption | refine At.there ?_)); first | done | fail)) rfl rfl (by (first | rfl | (rfl; first | done | fail))) | exact .s (by ((repeat (first | exact At.here | assumption | refine At.there ?_)); first | done | fail)) (by (first | exact Mid.all | exact Mid.all | exact Mid.head)) rfl rfl (by (first | rfl | (rfl; first | done | fail))) | exact .z rfl rfl ⟨by kernel_rfl⟩ | exact .b rfl rfl ⟨by kernel_rfl⟩ | exact .a rfl rfl ⟨by kernel_rfl⟩ | exact .o rfl | exact .s | exact .n | exact .p rfl | exact .q rfl | exact .c rfl | exact .d rfl | exact .n rfl rfl (by omega) | exact .a rfl rfl (by omega) | exact .p rfl rfl (by omega) (by omega) | exact .y rfl rfl (by omega) (by omega) | exact .o (by ((repeat (first | exact At.here | assumption | refine At.there ?_)); first | done | fail)) (by omega) rfl (by (first | rfl | first | exact hnx | exact hny)) | exact .m (by ((repeat (first | exact At.here | assumption | refine At.there ?_)); first | done | fail)) (by omega) (by (first | exact Mid.all | exact Mid.all | exact Mid.head)) rfl rfl (by (first | rfl | (rfl; first | done | fail))) | exact .mlen (by ((repeat (first | exact At.here | assumption | refine At.there ?_)); first | done | fail)) rfl | exact .r rfl rfl | exact .h rfl rfl rfl (by omega) | exact .l rfl rfl rfl (by omega) (by omega) | exact .g rfl rfl rfl rfl (by omega) (by omega) | exact .o (by decide) | exact .f (by decide) | exact .n (by omega) (by first | decide | (show _ ≤ ((64 : Nat) : Int); omega)) | (constructor; (repeat (first | exact .t (by omega) | exact .f (by omega) | exact .u | exact .i (by omega) | exact .v (by omega) | exact .b (by omega) | exact .w | rfl | omega)); first | done | fail) | omega | (show _ ≤ ((64 : Nat) : Int); omega))); first | done | fail)))) rfl ?_ | refine sl_yes rfl rfl ?_ | refine sl_no rfl rfl rfl ?_ | refine sl_off rfl rfl rfl ?_) | (first | refine sc_seq ?_ | refine sc_region ?_ | refine sl_nil ?_ | refine se_seq ?_ | refine sc_cond rfl (by constructor) ?_ | refine sc_skip ?_ | refine sc_block ?_ | refine se_blk (by first | exact .n | exact .h | exact .m rfl | exact .r | exact .p) ?_ | refine sc_exit ?_ | refine se_pass (by constructor) ?_ | refine sc_ret ?_) | ((first | refine sl_store rfl (by ((repeat (first | exact Pick.here | apply Pick.there)); first | done | fail)) rfl rfl (by kernel_rfl) (by (first | (fail) | ((repeat (first | exact SetAt.here | apply SetAt.there)); first | done | fail))) ?_ | refine sl_store_whole rfl (by ((repeat (first | exact Pick.here | apply Pick.there)); first | done | fail)) rfl (by (first | rfl | (rfl; first | done | fail))) (by (first | rfl | (rfl; first | done | fail))) (by (first | assumption | exact one_bytes _ | (simp only [List.mem_cons, List.not_mem_nil, or_false, forall_eq_or_imp, forall_eq]; decide) | exact one_bytes _ | (intro v hv; (repeat (rcases List.mem_cons.1 hv with rfl | hv; rfl)); cases hv))) ?_))))
  exact se_ret1 () trivial rfl rfl (by ((repeat (first | exact Sub.refl | exact Sub.nil | (apply Sub.cons; (repeat (first | exact Pick.here | apply Pick.there)); show Sub _ _) | apply Sub.skip)); first | done | fail))

end Go.Proofs.YtocaabnbmcpjmaaGreatDoor
/- Reports that there were: how they lie in memory, in which order they stand; a search for one. -/
namespace Go.Proofs.YtocaabnbmcpjmaaGreatDoor
open Go.RowKit
attribute [local irreducible] Go.Calls Go.Exit.then Go.Exit.inBlock Go.bodyPost Go.Code.wp Go.wpList

/-! The order. -/
theorem cmpI_self : ∀ (a : List Int), cmpI a a = 0
  | [] => rfl
  | x :: a => by simp [cmpI, cmpI_self a]
theorem cmpI_swap : ∀ (a b : List Int), cmpI b a = -cmpI a b
  | [], [] => rfl
  | [], _ :: _ => rfl
  | _ :: _, [] => rfl
  | x :: a, y :: b => by
    have ih := cmpI_swap a b
    simp only [cmpI]
    split <;> split <;> (try omega)
theorem cmpI_eq : ∀ {a b : List Int}, a.length = b.length → cmpI a b = 0 → a = b
  | [], [], _, _ => rfl
  | [], _ :: _, h, _ => by simp at h
  | _ :: _, [], h, _ => by simp at h
  | x :: a, y :: b, h, hc => by
    simp only [cmpI] at hc
    split at hc
    · omega
    · split at hc
      · omega
      · rw [cmpI_eq (by simpa using h) hc, show x = y from by omega]
theorem cmpI_trans : ∀ {a b c : List Int}, cmpI a b < 0 → cmpI b c < 0 → cmpI a c < 0
  | [], [], _, h, _ => by simp [cmpI] at h
  | [], _ :: _, [], _, h => by simp [cmpI] at h
  | [], _ :: _, _ :: _, _, _ => by simp [cmpI]
  | _ :: _, [], _, h, _ => by simp [cmpI] at h
  | x :: a, y :: b, [], _, h => by simp [cmpI] at h
  | x :: a, y :: b, z :: c, h, h' => by
    have ih := @cmpI_trans a b c
    simp only [cmpI] at h h' ⊢
    split at h <;> split at h' <;> (try split at h) <;> (try split at h') <;> (try omega)
    all_goals first
      | (rw [if_pos (by omega)]; omega)
      | (rw [if_neg (by omega), if_neg (by omega)]; exact ih h h')
theorem Id.eq_iff (a b : Id) : cmpI a.l b.l = 0 ↔ a = b := by
  constructor
  · intro h
    exact Id.ext_ (cmpI_eq (by rw [a.len, b.len]) h)
  · rintro rfl
    exact cmpI_self _

abbrev ltS (a b : Seen) : Prop := cmpI a.id.l b.id.l < 0
def Srt (ss : List Seen) : Prop := ss.Pairwise ltS
/-- How many stand ahead of an id. -/
def posI (ss : List Seen) (id : Id) : Nat := (ss.takeWhile fun s => decide (cmpI s.id.l id.l < 0)).length
def hasI (ss : List Seen) (id : Id) : Bool := ss.any fun s => decide (cmpI s.id.l id.l = 0)
theorem posI_eq : ∀ {ss : List Seen} {id : Id} {i : Nat}, i ≤ ss.length → (∀ k s, k < i → ss[k]? = some s → cmpI s.id.l id.l < 0) → (∀ k s, i ≤ k → ss[k]? = some s → 0 ≤ cmpI s.id.l id.l) → posI ss id = i
  | [], id, i, hi, _, _ => by simp at hi; subst hi; rfl
  | s :: r, id, 0, _, _, h2 => by
    have := h2 0 s (Nat.le_refl _) rfl
    unfold posI
    rw [List.takeWhile_cons_of_neg (by simp; omega)]
    rfl
  | s :: r, id, i + 1, hi, h1, h2 => by
    have h0 := h1 0 s (by omega) rfl
    have ih := posI_eq (ss := r) (id := id) (i := i) (by simpa using hi) (fun k s hk hs => h1 (k + 1) s (by omega) hs) (fun k s hk hs => h2 (k + 1) s (by omega) hs)
    unfold posI at ih ⊢
    rw [List.takeWhile_cons_of_pos (by simpa using h0), List.length_cons, ih]
theorem Srt.lt {ss : List Seen} (h : Srt ss) {i j : Nat} {a b : Seen} (hij : i < j) (ha : ss[i]? = some a) (hb : ss[j]? = some b) : cmpI a.id.l b.id.l < 0 := by
  obtain ⟨h1, rfl⟩ := List.getElem?_eq_some_iff.1 ha
  obtain ⟨h2, rfl⟩ := List.getElem?_eq_some_iff.1 hb
  exact List.pairwise_iff_getElem.1 h i j h1 h2 hij
theorem hasI_at {ss : List Seen} (h : Srt ss) {id : Id} {i : Nat} (h1 : ∀ k s, k < i → ss[k]? = some s → cmpI s.id.l id.l < 0) (h2 : ∀ k s, i ≤ k → ss[k]? = some s → 0 ≤ cmpI s.id.l id.l) :
    hasI ss id = match ss[i]? with | some s => decide (cmpI s.id.l id.l = 0) | none => false := by
  cases hs : ss[i]? with
  | none =>
    unfold hasI
    rw [List.any_eq_false]
    intro s hm
    obtain ⟨k, hk⟩ := List.getElem?_of_mem hm
    have : k < i := by
      have h3 := (List.getElem?_eq_some_iff.1 hk).1
      have h4 := List.getElem?_eq_none_iff.1 hs
      omega
    have := h1 k s this hk
    simp
    omega
  | some s =>
    by_cases he : cmpI s.id.l id.l = 0
    · simp only [he, decide_true]
      unfold hasI
      rw [List.any_eq_true]
      exact ⟨s, List.mem_of_getElem? hs, by simpa using he⟩
    · simp only [he, decide_false]
      unfold hasI
      rw [List.any_eq_false]
      intro u hm
      obtain ⟨k, hk⟩ := List.getElem?_of_mem hm
      rcases Nat.lt_trichotomy k i with hki | hki | hki
      · have := h1 k u hki hk
        simp
        omega
      · subst hki
        rw [hs] at hk
        injection hk with hk
        subst hk
        simpa using he
      · have h3 := h.lt hki hs hk
        have h4 := h2 i s (Nat.le_refl _) hs
        have h5 : cmpI id.l u.id.l < 0 := by
          have h6 : cmpI id.l s.id.l < 0 := by
            have := cmpI_swap s.id.l id.l
            omega
          exact cmpI_trans h6 h3
        have := cmpI_swap u.id.l id.l
        simp
        omega

theorem nth_Rq2 {φ : Prop} (h : φ := by (first | rfl | first | exact Seen.nt _ | exact Seen.nc _)) : φ := h
theorem mid_Rq2 {φ : Prop} (h : φ := by (first | first | exact Seen.mid _ | exact Mid.all | exact Mid.head)) : φ := h
theorem sz_Rq2 {φ : Prop} (h : φ := by (first | rfl | (simp only [Seen.len, bytes_length, Id.len]; rfl; first | done | fail))) : φ := h
theorem one_Rq2 {φ : Prop} (h : φ := by (first | assumption | exact one_bytes _ | (simp only [List.mem_cons, List.not_mem_nil, or_false, forall_eq_or_imp, forall_eq]; decide) | exact one_bytes _ | (intro v hv; (repeat (rcases List.mem_cons.1 hv with rfl | hv; rfl)); cases hv))) : φ := h
theorem set_Rq2 {φ : Prop} (h : φ := by (first | (fail) | ((repeat (first | exact SetAt.here | apply SetAt.there)); first | done | fail))) : φ := h
theorem cl_Rq2 {φ : Prop} (h : φ := by first | rfl | exact .t | exact .f | exact .t (by omega) | exact .f (by omega) | exact .u | exact .i (by (first | exact .t (by omega) | exact .f (by omega) | exact .u | exact .i (by omega) | exact .v (by omega) | exact .b (by omega) | exact .w | rfl | omega)) | exact .v (by omega) | exact .b (by omega) | exact .q (by omega) | exact .w | exact .b (by exact at_) rfl (by exact nth_Rq2) | exact .w (by exact at_) rfl rfl (by exact sz_Rq2) | exact .s (by exact at_) (by exact mid_Rq2) rfl rfl (by exact sz_Rq2) | exact .z rfl rfl ⟨by kernel_rfl⟩ | exact .b rfl rfl ⟨by kernel_rfl⟩ | exact .a rfl rfl ⟨by kernel_rfl⟩ | exact .o rfl | exact .s | exact .n | exact .p rfl | exact .q rfl | exact .c rfl | exact .d rfl | exact .n rfl rfl (by omega) | exact .a rfl rfl (by omega) | exact .p rfl rfl (by omega) (by omega) | exact .y rfl rfl (by omega) (by omega) | exact .o (by exact at_) (by omega) rfl (by exact nth_Rq2) | exact .m (by exact at_) (by omega) (by exact mid_Rq2) rfl rfl (by exact sz_Rq2) | exact .mlen (by exact at_) rfl | exact .t (by exact at_) rfl rfl (by first | exact True.intro | rfl) (by assumption) | exact .f (by exact at_) rfl rfl (by first | exact True.intro | rfl) (by assumption) rfl | exact .t1 (by exact at_) rfl rfl (by first | exact True.intro | rfl) (by assumption) | exact .f1 (by exact at_) rfl rfl (by first | exact True.intro | rfl) (by assumption) rfl | exact .tk (by exact at_) rfl (by assumption) (by assumption) | exact .fk (by exact at_) rfl (by assumption) (by assumption) rfl | exact .tk1 (by exact at_) rfl (by assumption) (by assumption) | exact .fk1 (by exact at_) rfl (by assumption) (by assumption) rfl | exact .r rfl rfl (by omega) (by omega) (by exact nth_Rq2) rfl | exact .s rfl (by omega) (by assumption) | exact at_ | assumption | exact .r rfl rfl | exact .h rfl rfl rfl (by omega) | exact .l rfl rfl rfl (by omega) (by omega) | exact .g rfl rfl rfl rfl (by omega) (by omega) | exact .h rfl rfl (toN_ (by omega)) (by omega) | exact .l rfl rfl (toN_ (by omega)) (by omega) (by omega) | exact .g rfl rfl (toN_ (by omega)) (toN_ (by omega)) (by omega) (by omega) | exact .o (by decide) | exact .f (by decide) | exact .n (by omega) (by first | decide | (show _ ≤ ((64 : Nat) : Int); omega)) | (constructor; (repeat (first | exact .t (by omega) | exact .f (by omega) | exact .u | exact .i (by omega) | exact .v (by omega) | exact .b (by omega) | exact .w | rfl | omega)); first | done | fail) | omega | (show _ ≤ ((64 : Nat) : Int); omega)) : φ := h
theorem pv_Rq2 {φ : Prop} (h : φ := by constructor; (repeat exact cl_Rq2); first | done | fail) : φ := h
theorem su_Rq2 {φ ψ : Prop} (k : ψ) (h : Hide ψ → φ := by (intro k; (first | refine sl_pu (PuI.sep (by exact pv_Rq2)) rfl ?_ | refine sl_yes rfl rfl ?_ | refine sl_no rfl rfl rfl ?_ | refine sl_off rfl rfl rfl ?_ | (fail)); exact k.out)) : φ := h ⟨k⟩
theorem rq_Rq2 {φ ψ : Prop} (k : ψ) (h : Hide ψ → φ := by (intro k; (first | refine wq_pu (PuI.sep (by exact pv_Rq2)) rfl ?_ | refine wq_yes rfl rfl ?_ | refine wq_no rfl rfl rfl ?_ | refine wq_off rfl rfl rfl ?_ | (fail)); exact k.out)) : φ := h ⟨k⟩
theorem sto_Rq2 {φ ψ : Prop} (k : ψ) (h : Hide ψ → φ := by (intro k; (first | refine sl_store rfl (by exact pick_) rfl rfl (by kernel_rfl) (by exact set_Rq2) ?_ | refine sl_store_whole rfl (by exact pick_) rfl (by exact sz_Rq2) (by exact sz_Rq2) (by exact one_Rq2) ?_); exact k.out)) : φ := h ⟨k⟩
theorem go_Rq2 {φ ψ : Prop} (k : ψ) (h : Hide ψ → φ := by (intro k; (repeat (first | refine su_Rq2 ?_ | refine so_ ?_ | refine sto_Rq2 ?_)); exact k.out)) : φ := h ⟨k⟩
set_option maxRecDepth 100000 in
theorem find1_ok {K : List Fa} (s : Seen) (id : Id) :
    Fn Tryz.prog 115 #[s.v, id.v] K (Ret (fun _ : Unit => True) (fun _ => .int .i64 (cmpI s.id.l id.l)) (fun _ => K)) := by
  refine fn_enter Tryz.func115 rfl _ Tryz.ntmps115 (by simp) [(0, s.v), (1, id.v)] (args_of (by simp)) ?_
  refine go_Rq2 ?_
  refine sl_box rfl rfl rfl ?_; intro ga
  refine sl_box rfl rfl rfl ?_; intro gb
  refine go_Rq2 ?_
  refine sl_call rfl rfl (by kernel_rfl) rfl (by exact sub_) (Compare_ok s.id id) ?_; rintro _ -
  refine go_Rq2 ?_
  exact se_ret1 () trivial rfl rfl (by exact sub_)

structure Bs where
  i : Nat
  j : Nat
set_option maxRecDepth 100000 in
set_option maxHeartbeats 2000000 in
theorem search_ok {K : List Fa} {A : Option Addr} {c : Nat} {ss : List Seen} (id : Id) (hr : Vw K (fun w => Reads w 18 A ss.length (rows Seen.cells ss))) (hs : Srt ss) (hn : ss.length ≤ 4611686018427387904) :
    Fn Tryz.prog 114 #[.slice A ss.length c, id.v, .func (.func 115) #[] #[]] K (Ret (fun _ : Unit => True) (fun _ => .tuple #[.int .i64 (posI ss id), .bool (hasI ss id)]) (fun _ => K)) := by
  refine fn_enter Tryz.func114 rfl _ Tryz.ntmps114 (by simp) [(0, .slice A ss.length c), (1, id.v), (2, .func (.func 115) #[] #[])] (args_of (by simp)) ?_
  refine go_Rq2 ?_
  refine sl_box rfl rfl rfl ?_; intro gb
  refine go_Rq2 ?_
  refine sc_for (fun p : Bs => [(0, .slice A ss.length c), (2, .func (.func 115) #[] #[]), (4, .pointer (some ⟨gb, 0, none⟩)), (8, .int .i64 ss.length), (9, .int .i64 p.i), (10, .int .i64 p.j)]) (fun _ => blk gb 56 (bytes id.l) :: K)
    (fun p => p.i ≤ p.j ∧ p.j ≤ ss.length ∧ (∀ k s, k < p.i → ss[k]? = some s → cmpI s.id.l id.l < 0) ∧ (∀ k s, p.j ≤ k → ss[k]? = some s → 0 ≤ cmpI s.id.l id.l)) (fun p => p.j - p.i) ⟨0, ss.length⟩ (by exact has_) (by exact sub_)
    ⟨Nat.zero_le _, Nat.le_refl _, fun k s hk => absurd hk (by simp), fun k s hk h => by have := (List.getElem?_eq_some_iff.1 h).1; simp at hk; omega⟩ ?_
  rintro ⟨i, j⟩ ⟨hij, hj, h1, h2⟩
  dsimp only at hij hj h1 h2 ⊢
  have hrL : Vw (blk gb 56 (bytes id.l) :: K) (fun w => Reads w 18 A ss.length (rows Seen.cells ss)) := hr.mono (by exact sub_)
  by_cases hlt : i < j
  · refine sc_know (vw_form hrL (by omega)) ?_
    rintro ⟨ad, rfl⟩
    refine go_Rq2 ?_
    obtain ⟨h, hh⟩ : ∃ h : Nat, ((i : Int) + j) / 2 = (h : Int) := ⟨((i : Int) + j).toNat / 2, by omega⟩
    rw [hh]
    have hhi : i ≤ h := by omega
    have hhj : h < j := by omega
    obtain ⟨s, hs'⟩ : ∃ s, ss[h]? = some s := ⟨_, List.getElem?_eq_getElem (by omega)⟩
    refine sq_region (by kernel_rfl) (by kernel_rfl) ?_
    repeat refine rq_Rq2 ?_
    refine wq_pu (pu_ldrs hrL (by omega) rfl (rows_mid Seen.len hs') rfl rfl (by exact sz_Rq2)) rfl ?_
    repeat refine rq_Rq2 ?_
    refine WQ_call rfl rfl (by kernel_rfl) rfl (find1_ok s id) ?_
    by_cases hc : cmpI s.id.l id.l < 0
    · repeat refine rq_Rq2 ?_
      refine sq_end ?_
      refine go_Rq2 ?_
      refine se_round ⟨h + 1, j⟩ (by exact has_) (by exact sub_) ⟨hhj, hj, fun k u hk hu => ?_, h2⟩ (by dsimp only; omega)
      by_cases hkh : k = h
      · subst hkh
        rw [hs'] at hu
        injection hu with hu
        subst hu
        exact hc
      · exact cmpI_trans (hs.lt (show k < h from by dsimp only at hk; omega) hu hs') hc
    · repeat refine rq_Rq2 ?_
      refine sq_end ?_
      refine go_Rq2 ?_
      refine se_round ⟨i, h⟩ (by exact has_) (by exact sub_) ⟨hhi, by dsimp only; omega, h1, fun k u hk hu => ?_⟩ (by dsimp only; omega)
      by_cases hkh : k = h
      · subst hkh
        rw [hs'] at hu
        injection hu with hu
        subst hu
        omega
      · have h3 := hs.lt (show h < k from by dsimp only at hk; omega) hs' hu
        by_cases h4 : cmpI u.id.l id.l < 0
        · exact absurd (cmpI_trans h3 h4) hc
        · omega
  · obtain rfl : i = j := by omega
    have hp : posI ss id = i := posI_eq hj h1 h2
    have hh := hasI_at hs h1 h2
    refine go_Rq2 ?_
    by_cases hin : i < ss.length
    · obtain ⟨s, hs'⟩ : ∃ s, ss[i]? = some s := ⟨_, List.getElem?_eq_getElem hin⟩
      refine sc_know (vw_form hrL (by omega)) ?_
      rintro ⟨ad, rfl⟩
      rw [hs'] at hh
      refine sq_region (by kernel_rfl) (by kernel_rfl) ?_
      repeat refine rq_Rq2 ?_
      refine wq_pu (pu_ldrs hrL (by omega) rfl (rows_mid Seen.len hs') rfl rfl (by exact sz_Rq2)) rfl ?_
      repeat refine rq_Rq2 ?_
      refine WQ_call rfl rfl (by kernel_rfl) rfl (find1_ok s id) ?_
      have hh' : hasI ss id = decide (cmpI s.id.l id.l = 0) := hh
      by_cases h0 : cmpI s.id.l id.l = 0
      all_goals
        repeat refine rq_Rq2 ?_
        refine sq_end ?_
        refine go_Rq2 ?_
        refine se_ret2 () trivial rfl rfl rfl (by rw [hp, hh']; simp [h0]) (by exact sub_)
    · rw [List.getElem?_eq_none (by omega)] at hh
      refine sq_region (by kernel_rfl) (by kernel_rfl) ?_
      repeat refine rq_Rq2 ?_
      refine sq_end ?_
      refine go_Rq2 ?_
      refine se_ret2 () trivial rfl rfl rfl (by rw [hp, hh]) (by exact sub_)
end Go.Proofs.YtocaabnbmcpjmaaGreatDoor
/- Finding, a copy, one more at its place. -/
namespace Go.Proofs.YtocaabnbmcpjmaaGreatDoor
open Go.RowKit
attribute [local irreducible] Go.Calls Go.Exit.then Go.Exit.inBlock Go.bodyPost Go.Code.wp Go.wpList

theorem nth_Rq3 {φ : Prop} (h : φ := by (first | rfl | first | exact Seen.nt _ | exact Seen.nc _)) : φ := h
theorem mid_Rq3 {φ : Prop} (h : φ := by (first | first | exact Seen.mid _ | exact Mid.all | exact Mid.head)) : φ := h
theorem sz_Rq3 {φ : Prop} (h : φ := by (first | rfl | (simp only [Seen.len, bytes_length, Id.len]; rfl; first | done | fail))) : φ := h
theorem one_Rq3 {φ : Prop} (h : φ := by (first | assumption | exact one_bytes _ | (simp only [List.mem_cons, List.not_mem_nil, or_false, forall_eq_or_imp, forall_eq]; decide) | exact one_bytes _ | (intro v hv; (repeat (rcases List.mem_cons.1 hv with rfl | hv; rfl)); cases hv))) : φ := h
theorem set_Rq3 {φ : Prop} (h : φ := by (first | (fail) | ((repeat (first | exact SetAt.here | apply SetAt.there)); first | done | fail))) : φ := h
theorem cl_Rq3 {φ : Prop} (h : φ := by first | rfl | exact .t | exact .f | exact .t (by omega) | exact .f (by omega) | exact .u | exact .i (by (first | exact .t (by omega) | exact .f (by omega) | exact .u | exact .i (by omega) | exact .v (by omega) | exact .b (by omega) | exact .w | rfl | omega)) | exact .v (by omega) | exact .b (by omega) | exact .q (by omega) | exact .w | exact .b (by exact at_) rfl (by exact nth_Rq3) | exact .w (by exact at_) rfl rfl (by exact sz_Rq3) | exact .s (by exact at_) (by exact mid_Rq3) rfl rfl (by exact sz_Rq3) | exact .z rfl rfl ⟨by kernel_rfl⟩ | exact .b rfl rfl ⟨by kernel_rfl⟩ | exact .a rfl rfl ⟨by kernel_rfl⟩ | exact .o rfl | exact .s | exact .n | exact .p rfl | exact .q rfl | exact .c rfl | exact .d rfl | exact .n rfl rfl (by omega) | exact .a rfl rfl (by omega) | exact .p rfl rfl (by omega) (by omega) | exact .y rfl rfl (by omega) (by omega) | exact .o (by exact at_) (by omega) rfl (by exact nth_Rq3) | exact .m (by exact at_) (by omega) (by exact mid_Rq3) rfl rfl (by exact sz_Rq3) | exact .mlen (by exact at_) rfl | exact .t (by exact at_) rfl rfl (by first | exact True.intro | rfl) (by assumption) | exact .f (by exact at_) rfl rfl (by first | exact True.intro | rfl) (by assumption) rfl | exact .t1 (by exact at_) rfl rfl (by first | exact True.intro | rfl) (by assumption) | exact .f1 (by exact at_) rfl rfl (by first | exact True.intro | rfl) (by assumption) rfl | exact .tk (by exact at_) rfl (by assumption) (by assumption) | exact .fk (by exact at_) rfl (by assumption) (by assumption) rfl | exact .tk1 (by exact at_) rfl (by assumption) (by assumption) | exact .fk1 (by exact at_) rfl (by assumption) (by assumption) rfl | exact .r rfl rfl (by omega) (by omega) (by exact nth_Rq3) rfl | exact .s rfl (by omega) (by assumption) | exact at_ | assumption | exact .r rfl rfl | exact .h rfl rfl rfl (by omega) | exact .l rfl rfl rfl (by omega) (by omega) | exact .g rfl rfl rfl rfl (by omega) (by omega) | exact .h rfl rfl (toN_ (by omega)) (by omega) | exact .l rfl rfl (toN_ (by omega)) (by omega) (by omega) | exact .g rfl rfl (toN_ (by omega)) (toN_ (by omega)) (by omega) (by omega) | exact .o (by decide) | exact .f (by decide) | exact .n (by omega) (by first | decide | (show _ ≤ ((64 : Nat) : Int); omega)) | (constructor; (repeat (first | exact .t (by omega) | exact .f (by omega) | exact .u | exact .i (by omega) | exact .v (by omega) | exact .b (by omega) | exact .w | rfl | omega)); first | done | fail) | omega | (show _ ≤ ((64 : Nat) : Int); omega)) : φ := h
theorem pv_Rq3 {φ : Prop} (h : φ := by constructor; (repeat exact cl_Rq3); first | done | fail) : φ := h
theorem su_Rq3 {φ ψ : Prop} (k : ψ) (h : Hide ψ → φ := by (intro k; (first | refine sl_pu (PuI.sep (by exact pv_Rq3)) rfl ?_ | refine sl_yes rfl rfl ?_ | refine sl_no rfl rfl rfl ?_ | refine sl_off rfl rfl rfl ?_ | (fail)); exact k.out)) : φ := h ⟨k⟩
theorem rq_Rq3 {φ ψ : Prop} (k : ψ) (h : Hide ψ → φ := by (intro k; (first | refine wq_pu (PuI.sep (by exact pv_Rq3)) rfl ?_ | refine wq_yes rfl rfl ?_ | refine wq_no rfl rfl rfl ?_ | refine wq_off rfl rfl rfl ?_ | (fail)); exact k.out)) : φ := h ⟨k⟩
theorem sto_Rq3 {φ ψ : Prop} (k : ψ) (h : Hide ψ → φ := by (intro k; (first | refine sl_store rfl (by exact pick_) rfl rfl (by kernel_rfl) (by exact set_Rq3) ?_ | refine sl_store_whole rfl (by exact pick_) rfl (by exact sz_Rq3) (by exact sz_Rq3) (by exact one_Rq3) ?_); exact k.out)) : φ := h ⟨k⟩
theorem go_Rq3 {φ ψ : Prop} (k : ψ) (h : Hide ψ → φ := by (intro k; (repeat (first | refine su_Rq3 ?_ | refine so_ ?_ | refine sto_Rq3 ?_)); exact k.out)) : φ := h ⟨k⟩

set_option maxRecDepth 100000 in
theorem find_ok {L : List Fa} {x c : Nat} {A : Option Addr} {ss : List Seen} {lim : Int} (id : Id) (hx : At (blk x 127 [.slice A ss.length c, .int .i64 lim]) L) (hr : Vw L (fun w => Reads w 18 A ss.length (rows Seen.cells ss))) (hs : Srt ss) (hn : ss.length ≤ 4611686018427387904) :
    Fn Tryz.prog 88 #[.pointer (some ⟨x, 0, none⟩), id.v] L (Ret (fun _ : Unit => True) (fun _ => .tuple #[.int .i64 (posI ss id), .bool (hasI ss id)]) (fun _ => L)) := by
  refine fn_enter Tryz.func88 rfl _ Tryz.ntmps88 (by simp) [(0, .pointer (some ⟨x, 0, none⟩)), (1, id.v)] (args_of (by simp)) ?_
  refine go_Rq3 ?_
  refine sl_box rfl rfl rfl ?_; intro ga
  refine go_Rq3 ?_
  refine sq_region (by kernel_rfl) (by kernel_rfl) ?_
  repeat refine rq_Rq3 ?_
  refine WQ_call rfl rfl (by kernel_rfl) rfl (search_ok id (hr.mono (by exact sub_)) hs hn) ?_
  repeat refine rq_Rq3 ?_
  refine sq_end ?_
  refine go_Rq3 ?_
  refine se_ret2 () trivial rfl rfl rfl rfl (by exact sub_)

end Go.Proofs.YtocaabnbmcpjmaaGreatDoor
/- One more at its place (slices.Insert). -/
namespace Go.Proofs.YtocaabnbmcpjmaaGreatDoor
open Go.RowKit
attribute [local irreducible] Go.Calls Go.Exit.then Go.Exit.inBlock Go.bodyPost Go.Code.wp Go.wpList

end Go.Proofs.YtocaabnbmcpjmaaGreatDoor
/- The index: New, Add, Get, Len, List. -/
namespace Go.Proofs.YtocaabnbmcpjmaaGreatDoor
open Go.RowKit
attribute [local irreducible] Go.Calls Go.Exit.then Go.Exit.inBlock Go.bodyPost Go.Code.wp Go.wpList

theorem nth_Rq5 {φ : Prop} (h : φ := by (first | rfl | first | exact Seen.nt _ | exact Seen.nc _)) : φ := h
theorem mid_Rq5 {φ : Prop} (h : φ := by (first | first | exact Seen.mid _ | exact Mid.all | exact Mid.head)) : φ := h
theorem sz_Rq5 {φ : Prop} (h : φ := by (first | rfl | (simp only [Seen.len, bytes_length, Id.len]; rfl; first | done | fail))) : φ := h
theorem one_Rq5 {φ : Prop} (h : φ := by (first | assumption | exact one_bytes _ | (simp only [List.mem_cons, List.not_mem_nil, or_false, forall_eq_or_imp, forall_eq]; decide) | exact one_bytes _ | (intro v hv; (repeat (rcases List.mem_cons.1 hv with rfl | hv; rfl)); cases hv))) : φ := h
theorem set_Rq5 {φ : Prop} (h : φ := by (first | (fail) | ((repeat (first | exact SetAt.here | apply SetAt.there)); first | done | fail))) : φ := h
theorem cl_Rq5 {φ : Prop} (h : φ := by first | rfl | exact .t | exact .f | exact .t (by omega) | exact .f (by omega) | exact .u | exact .i (by (first | exact .t (by omega) | exact .f (by omega) | exact .u | exact .i (by omega) | exact .v (by omega) | exact .b (by omega) | exact .w | rfl | omega)) | exact .v (by omega) | exact .b (by omega) | exact .q (by omega) | exact .w | exact .b (by exact at_) rfl (by exact nth_Rq5) | exact .w (by exact at_) rfl rfl (by exact sz_Rq5) | exact .s (by exact at_) (by exact mid_Rq5) rfl rfl (by exact sz_Rq5) | exact .z rfl rfl ⟨by kernel_rfl⟩ | exact .b rfl rfl ⟨by kernel_rfl⟩ | exact .a rfl rfl ⟨by kernel_rfl⟩ | exact .o rfl | exact .s | exact .n | exact .p rfl | exact .q rfl | exact .c rfl | exact .d rfl | exact .n rfl rfl (by omega) | exact .a rfl rfl (by omega) | exact .p rfl rfl (by omega) (by omega) | exact .y rfl rfl (by omega) (by omega) | exact .o (by exact at_) (by omega) rfl (by exact nth_Rq5) | exact .m (by exact at_) (by omega) (by exact mid_Rq5) rfl rfl (by exact sz_Rq5) | exact .mlen (by exact at_) rfl | exact .t (by exact at_) rfl rfl (by first | exact True.intro | rfl) (by assumption) | exact .f (by exact at_) rfl rfl (by first | exact True.intro | rfl) (by assumption) rfl | exact .t1 (by exact at_) rfl rfl (by first | exact True.intro | rfl) (by assumption) | exact .f1 (by exact at_) rfl rfl (by first | exact True.intro | rfl) (by assumption) rfl | exact .tk (by exact at_) rfl (by assumption) (by assumption) | exact .fk (by exact at_) rfl (by assumption) (by assumption) rfl | exact .tk1 (by exact at_) rfl (by assumption) (by assumption) | exact .fk1 (by exact at_) rfl (by assumption) (by assumption) rfl | exact .r rfl rfl (by omega) (by omega) (by exact nth_Rq5) rfl | exact .s rfl (by omega) (by assumption) | exact at_ | assumption | exact .r rfl rfl | exact .h rfl rfl rfl (by omega) | exact .l rfl rfl rfl (by omega) (by omega) | exact .g rfl rfl rfl rfl (by omega) (by omega) | exact .h rfl rfl (toN_ (by omega)) (by omega) | exact .l rfl rfl (toN_ (by omega)) (by omega) (by omega) | exact .g rfl rfl (toN_ (by omega)) (toN_ (by omega)) (by omega) (by omega) | exact .o (by decide) | exact .f (by decide) | exact .n (by omega) (by first | decide | (show _ ≤ ((64 : Nat) : Int); omega)) | (constructor; (repeat (first | exact .t (by omega) | exact .f (by omega) | exact .u | exact .i (by omega) | exact .v (by omega) | exact .b (by omega) | exact .w | rfl | omega)); first | done | fail) | omega | (show _ ≤ ((64 : Nat) : Int); omega)) : φ := h
theorem pv_Rq5 {φ : Prop} (h : φ := by constructor; (repeat exact cl_Rq5); first | done | fail) : φ := h
theorem su_Rq5 {φ ψ : Prop} (k : ψ) (h : Hide ψ → φ := by (intro k; (first | refine sl_pu (PuI.sep (by exact pv_Rq5)) rfl ?_ | refine sl_yes rfl rfl ?_ | refine sl_no rfl rfl rfl ?_ | refine sl_off rfl rfl rfl ?_ | (fail)); exact k.out)) : φ := h ⟨k⟩
theorem sto_Rq5 {φ ψ : Prop} (k : ψ) (h : Hide ψ → φ := by (intro k; (first | refine sl_store rfl (by exact pick_) rfl rfl (by kernel_rfl) (by exact set_Rq5) ?_ | refine sl_store_whole rfl (by exact pick_) rfl (by exact sz_Rq5) (by exact sz_Rq5) (by exact one_Rq5) ?_); exact k.out)) : φ := h ⟨k⟩
theorem go_Rq5 {φ ψ : Prop} (k : ψ) (h : Hide ψ → φ := by (intro k; (repeat (first | refine su_Rq5 ?_ | refine so_ ?_ | refine sto_Rq5 ?_)); exact k.out)) : φ := h ⟨k⟩
/-- What an Index at x is in memory. -/
abbrev ixb (x : Nat) (A : Option Addr) (n c : Nat) (lim : Int) : Fa := blk x 127 [.slice A n c, .int .i64 lim]
abbrev ixo (A : Option Addr) (c : Nat) (ss : List Seen) : Fa := own 103 18 A ss.length c (rows Seen.cells ss)

def insAt (ss : List Seen) (s : Seen) : List Seen := ss.take (posI ss s.id) ++ s :: ss.drop (posI ss s.id)
/-- Add: what it answers, what there is behind it. -/
def addI (lim : Int) (ss : List Seen) (s : Seen) : Int × List Seen :=
  if 1099511627776 < s.t then (6, ss) else if hasI ss s.id then (14, ss) else if lim ≤ ss.length then (18, ss) else (0, insAt ss s)
set_option maxRecDepth 100000 in
theorem new_ok {K : List Fa} (lim : Int) : Fn Tryz.prog 24 #[.int .i64 lim] K (Ret (fun _ : Nat => True) (fun x => .pointer (some ⟨x, 0, none⟩)) (fun x => ixb x none 0 0 (min (max lim 0) 256) :: K)) := by
  refine fn_enter Tryz.func24 rfl _ Tryz.ntmps24 (by simp) [(0, .int .i64 lim)] (args_of (by simp)) ?_
  refine go_Rq5 ?_
  have hl : (if 256 < if lim < 0 then 0 else lim then 256 else if lim < 0 then 0 else lim) = min (max lim 0) 256 := by
    repeat' split
    all_goals omega
  rw [hl]
  generalize min (max lim 0) 256 = N
  refine sl_pu (pu_build (v := .agg #[.slice none 0 0, .int .i64 N]) rfl (fun W => by kernel_rfl)) rfl ?_
  refine sl_box rfl rfl rfl ?_; intro x
  refine go_Rq5 ?_
  exact se_ret1 x trivial rfl rfl (by exact sub_)

end Go.Proofs.YtocaabnbmcpjmaaGreatDoor
/- Get; chapter 18's example; ReplayOrder. -/
namespace Go.Proofs.YtocaabnbmcpjmaaGreatDoor
open Go.RowKit
attribute [local irreducible] Go.Calls Go.Exit.then Go.Exit.inBlock Go.bodyPost Go.Code.wp Go.wpList

theorem nth_Rq6 {φ : Prop} (h : φ := by (first | rfl | first | exact Seen.nt _ | exact Seen.nc _)) : φ := h
theorem mid_Rq6 {φ : Prop} (h : φ := by (first | first | exact Seen.mid _ | exact Mid.all | exact Mid.head)) : φ := h
theorem sz_Rq6 {φ : Prop} (h : φ := by (first | rfl | (simp only [Seen.len, bytes_length, Id.len]; rfl; first | done | fail))) : φ := h
theorem one_Rq6 {φ : Prop} (h : φ := by (first | assumption | exact Seen.one _ | (simp only [List.mem_cons, List.not_mem_nil, or_false, forall_eq_or_imp, forall_eq]; decide) | exact one_bytes _ | (intro v hv; (repeat (rcases List.mem_cons.1 hv with rfl | hv; rfl)); cases hv))) : φ := h
theorem set_Rq6 {φ : Prop} (h : φ := by (first | (fail) | ((repeat (first | exact SetAt.here | apply SetAt.there)); first | done | fail))) : φ := h
theorem cl_Rq6 {φ : Prop} (h : φ := by first | rfl | exact .t | exact .f | exact .t (by omega) | exact .f (by omega) | exact .u | exact .i (by (first | exact .t (by omega) | exact .f (by omega) | exact .u | exact .i (by omega) | exact .v (by omega) | exact .b (by omega) | exact .w | rfl | omega)) | exact .v (by omega) | exact .b (by omega) | exact .q (by omega) | exact .w | exact .b (by exact at_) rfl (by exact nth_Rq6) | exact .w (by exact at_) rfl rfl (by exact sz_Rq6) | exact .s (by exact at_) (by exact mid_Rq6) rfl rfl (by exact sz_Rq6) | exact .z rfl rfl ⟨by kernel_rfl⟩ | exact .b rfl rfl ⟨by kernel_rfl⟩ | exact .a rfl rfl ⟨by kernel_rfl⟩ | exact .o rfl | exact .s | exact .n | exact .p rfl | exact .q rfl | exact .c rfl | exact .d rfl | exact .n rfl rfl (by omega) | exact .a rfl rfl (by omega) | exact .p rfl rfl (by omega) (by omega) | exact .y rfl rfl (by omega) (by omega) | exact .o (by exact at_) (by omega) rfl (by exact nth_Rq6) | exact .m (by exact at_) (by omega) (by exact mid_Rq6) rfl rfl (by exact sz_Rq6) | exact .mlen (by exact at_) rfl | exact .t (by exact at_) rfl rfl (by first | exact True.intro | rfl) (by assumption) | exact .f (by exact at_) rfl rfl (by first | exact True.intro | rfl) (by assumption) rfl | exact .t1 (by exact at_) rfl rfl (by first | exact True.intro | rfl) (by assumption) | exact .f1 (by exact at_) rfl rfl (by first | exact True.intro | rfl) (by assumption) rfl | exact .tk (by exact at_) rfl (by assumption) (by assumption) | exact .fk (by exact at_) rfl (by assumption) (by assumption) rfl | exact .tk1 (by exact at_) rfl (by assumption) (by assumption) | exact .fk1 (by exact at_) rfl (by assumption) (by assumption) rfl | exact .r rfl rfl (by omega) (by omega) (by exact nth_Rq6) rfl | exact .s rfl (by omega) (by assumption) | exact at_ | assumption | exact .r rfl rfl | exact .h rfl rfl rfl (by omega) | exact .l rfl rfl rfl (by omega) (by omega) | exact .g rfl rfl rfl rfl (by omega) (by omega) | exact .h rfl rfl (toN_ (by omega)) (by omega) | exact .l rfl rfl (toN_ (by omega)) (by omega) (by omega) | exact .g rfl rfl (toN_ (by omega)) (toN_ (by omega)) (by omega) (by omega) | exact .o (by decide) | exact .f (by decide) | exact .n (by omega) (by first | decide | (show _ ≤ ((64 : Nat) : Int); omega)) | (constructor; (repeat (first | exact .t (by omega) | exact .f (by omega) | exact .u | exact .i (by omega) | exact .v (by omega) | exact .b (by omega) | exact .w | rfl | omega)); first | done | fail) | omega | (show _ ≤ ((64 : Nat) : Int); omega)) : φ := h
theorem pv_Rq6 {φ : Prop} (h : φ := by constructor; (repeat exact cl_Rq6); first | done | fail) : φ := h
theorem su_Rq6 {φ ψ : Prop} (k : ψ) (h : Hide ψ → φ := by (intro k; (first | refine sl_pu (PuI.sep (by exact pv_Rq6)) rfl ?_ | refine sl_yes rfl rfl ?_ | refine sl_no rfl rfl rfl ?_ | refine sl_off rfl rfl rfl ?_ | (fail)); exact k.out)) : φ := h ⟨k⟩
theorem sto_Rq6 {φ ψ : Prop} (k : ψ) (h : Hide ψ → φ := by (intro k; (first | refine sl_store rfl (by exact pick_) rfl rfl (by kernel_rfl) (by exact set_Rq6) ?_ | refine sl_store_whole rfl (by exact pick_) rfl (by exact sz_Rq6) (by exact sz_Rq6) (by exact one_Rq6) ?_); exact k.out)) : φ := h ⟨k⟩
theorem go_Rq6 {φ ψ : Prop} (k : ψ) (h : Hide ψ → φ := by (intro k; (repeat (first | refine su_Rq6 ?_ | refine so_ ?_ | refine sto_Rq6 ?_)); exact k.out)) : φ := h ⟨k⟩
theorem id0_ok : IsBytes (List.replicate 16 0) := by
  intro x hx
  obtain ⟨_, rfl⟩ := List.mem_replicate.1 hx
  decide
def id0 : Id := ⟨List.replicate 16 0, rfl, id0_ok⟩
def seen0 : Seen := ⟨id0, 0, 0, by decide, by decide⟩
/-- What there is of an id. -/
def getI (ss : List Seen) (id : Id) : Seen := (ss[posI ss id]?).getD seen0
def gotI (ss : List Seen) (id : Id) : Seen := if hasI ss id then getI ss id else seen0
/-- Where there is one, it stands where it would be put. -/
theorem hasI_pos {ss : List Seen} (hs : Srt ss) {id : Id} (h : hasI ss id = true) : ∃ s, ss[posI ss id]? = some s ∧ s.id = id := by
  unfold hasI at h
  rw [List.any_eq_true] at h
  obtain ⟨s, hm, he⟩ := h
  obtain ⟨i, hi⟩ := List.getElem?_of_mem hm
  have he' : cmpI s.id.l id.l = 0 := by simpa using he
  have hsid := (Id.eq_iff _ _).1 he'
  have hp : posI ss id = i := posI_eq (Nat.le_of_lt (List.getElem?_eq_some_iff.1 hi).1)
    (fun k u hk hu => by rw [← hsid]; exact hs.lt hk hu hi)
    (fun k u hk hu => by
      rcases Nat.lt_or_ge i k with h1 | h1
      · have h2 := hs.lt h1 hi hu
        rw [← hsid]
        have := cmpI_swap s.id.l u.id.l
        omega
      · obtain rfl : k = i := by omega
        rw [hi] at hu
        injection hu with hu
        subst hu
        omega)
  rw [hp]
  exact ⟨s, hi, hsid⟩

set_option maxRecDepth 100000 in
set_option maxHeartbeats 2000000 in
theorem get_ok {K : List Fa} {x c : Nat} {A : Option Addr} {ss : List Seen} {lim : Int} (id : Id) (hs : Srt ss) (hn : ss.length ≤ 1000000) :
    Fn Tryz.prog 61 #[.pointer (some ⟨x, 0, none⟩), id.v] (ixb x A ss.length c lim :: ixo A c ss :: K)
      (Ret (fun _ : Unit => True) (fun _ => .tuple #[(gotI ss id).v, .bool (hasI ss id)]) (fun _ => ixb x A ss.length c lim :: ixo A c ss :: K)) := by
  refine fn_enter Tryz.func61 rfl _ Tryz.ntmps61 (by simp) [(0, .pointer (some ⟨x, 0, none⟩)), (1, id.v)] (args_of (by simp)) ?_
  refine go_Rq6 ?_
  refine sl_box rfl rfl rfl ?_; intro gi
  refine sl_alloc rfl rfl rfl ?_; intro go
  refine go_Rq6 ?_
  refine sl_call rfl rfl (by kernel_rfl) rfl (by exact sub_) (find_ok id (by exact at_) (Vw.of_own (by exact at_)) hs (by omega)) ?_; rintro _ -
  by_cases hh : hasI ss id = true
  · have hg : gotI ss id = getI ss id := by unfold gotI; rw [if_pos hh]
    obtain ⟨s, hs1, hs2⟩ := hasI_pos hs hh
    have hg2 : getI ss id = s := by unfold getI; rw [hs1]; rfl
    have hlt := (List.getElem?_eq_some_iff.1 hs1).1
    rw [hg, hg2, hh]
    refine go_Rq6 ?_
    refine sl_form (A := A) (by exact at_) (by omega) ?_
    rintro g0 rfl
    refine go_Rq6 ?_
    refine sl_pu (pu_ldrs (Vw.of_own (by exact at_)) (by omega) rfl (rows_mid Seen.len hs1) rfl rfl (by exact sz_Rq6)) rfl ?_
    refine go_Rq6 ?_
    exact se_ret_ct () trivial rfl rfl (by exact at_) rfl rfl (by exact sz_Rq6) rfl rfl (by exact sub_)
  · have hf : hasI ss id = false := by simpa using hh
    have hg : gotI ss id = seen0 := by unfold gotI; rw [if_neg hh]
    rw [hg, hf]
    refine go_Rq6 ?_
    refine sl_pu (pu_build (v := seen0.v) rfl (fun W => by kernel_rfl)) rfl ?_
    refine go_Rq6 ?_
    exact se_ret_ct () trivial rfl rfl (by exact at_) rfl rfl (by exact sz_Rq6) rfl rfl (by exact sub_)

/-! Chapter 18's example. -/
theorem srt_nil : Srt [] := List.Pairwise.nil
/-! ReplayOrder. -/
end Go.Proofs.YtocaabnbmcpjmaaGreatDoor
/- ReplayOnce. -/
namespace Go.Proofs.YtocaabnbmcpjmaaGreatDoor
open Go.RowKit
attribute [local irreducible] Go.Calls Go.Exit.then Go.Exit.inBlock Go.bodyPost Go.Code.wp Go.wpList

/-! An index with one more. -/
end Go.Proofs.YtocaabnbmcpjmaaGreatDoor
