/- Steps on floats; Abs, Clamp, Near over facts. -/
import Derived.Test.YtidphdlhghgglaaSa
import Derived.Test.YtidphdlhghgglaaCl
import Derived.Test.YtidphdlhghgglaaReg4
import Derived.Laws.BitsAllLaws
namespace Go.Proofs.Ytidphdlhghgglaa
open Go.RowKit
attribute [local irreducible] Go.Calls Go.Exit.then Go.Exit.inBlock Go.bodyPost Go.Code.wp Go.wpList
theorem nan_rung {x : Nat} (h : 9218868437227405312 < x % 9223372036854775808) : fnan x = true := by
  rw [fnan_eq]
  unfold Ieee.Format.read
  simp only [sw_eq, bi_eq, ir_eq]
  rw [if_neg (by omega), if_neg (by omega), if_neg (by omega)]
  rfl
section
variable {P : Program} {C : World → Prop} {ops : Array Oper} {Q : Exit → Act → World → Prop} {n : Nat} {l : Env} {L : List Fa} {rest : List Oper} {d : Tmp} {t t' ty : TypeId} {pos : String} {after : Array Edge} {x y : Operand} {a b : Nat} {c : Bool}
theorem sl_fsub (hx : ev l x = some (.float .f64 a)) (hy : ev l y = some (.float .f64 b)) (hd : Nat.blt d n = true) (h1 : ∀ r, subF a b = some r → SL P ops Q rest n ((d, .float .f64 r) :: l) L) (h0 : subF a b = none → ∀ r, fnan r = true → r < 18446744073709551616 → SL P ops Q rest n ((d, .float .f64 r) :: l) L) :
    SL P ops Q (⟨some d, .binOp .sub t x y t', ty, pos, after, none⟩ :: rest) n l L := sl_of fun w hw => by
  cases h : subF a b with
  | some r =>
    refine wl_run (v := .float .f64 r) (w' := w) ?_ hd ((h1 r h).to hw)
    unfold Ru
    intro q _ _ _ _ hs
    have h' : FloatKind.f64.format.sub a b = some r := h
    simp only [execOp, hs.ev hx, hs.ev hy]
    simp [go_sem, binOp, Op.floatArith, h']
  | none =>
    have h' : FloatKind.f64.format.sub a b = none := h
    have hb : ∀ u : Nat, (u % 2 * 2 ^ 63 + 0x7ff0000000000000 + 1 + u / 2 % (2 ^ 52 - 1)) % 9223372036854775808 = 0x7ff0000000000000 + 1 + u / 2 % (2 ^ 52 - 1) ∧ u % 2 * 2 ^ 63 + 0x7ff0000000000000 + 1 + u / 2 % (2 ^ 52 - 1) < 18446744073709551616 := fun u => by
      have h1 := Nat.mod_lt (u / 2) (by decide : 0 < 2 ^ 52 - 1)
      constructor <;> omega
    have hq := hb (w.tape w.drawn (.nanBits .f64 a b))
    refine wl_run (v := .float .f64 ((Question.nanBits .f64 a b).cut (w.tape w.drawn (.nanBits .f64 a b)))) (w' := w.drew) ?_ hd ((h0 h _ (nan_rung ?_) ?_).to (hw.nil ((Fr.refl Nil w).drew)))
    · unfold Ru
      intro q _ _ _ _ hs
      simp only [execOp, hs.ev hx, hs.ev hy]
      simp [go_sem, binOp, Op.floatArith, h', Question.forced]
    · show _ < (_ + 0x7ff0000000000000 + 1 + _) % 9223372036854775808
      rw [hq.1]
      omega
    · exact hq.2
theorem pu_fnn (hx : ev l x = some (.float .f64 a)) (hy : ev l y = some (.float .f64 a)) (h : fnan a = c) : Pu P C n l (.binOp .neq t x y t') ty (.bool c) := by
  subst h
  unfold Pu
  intro q _ _ _ _ W hs _
  simp only [execOp, hs.ev hx, hs.ev hy]
  simp [go_sem, fnan, fEq]
  rfl
theorem pu_fls (hx : ev l x = some (.float .f64 a)) (hy : ev l y = some (.float .f64 b)) (h : fLt a b = c) : Pu P C n l (.binOp .lss t x y t') ty (.bool c) := by
  subst h
  exact pu_flss hx hy
theorem pu_fgt (hx : ev l x = some (.float .f64 a)) (hy : ev l y = some (.float .f64 b)) (h : fLt b a = c) : Pu P C n l (.binOp .gtr t x y t') ty (.bool c) := by
  subst h
  unfold Pu
  intro q _ _ _ _ W hs _
  simp only [execOp, hs.ev hx, hs.ev hy]
  simp [go_sem, ← fGt_eq]
theorem pu_fe (hx : ev l x = some (.float .f64 a)) (hy : ev l y = some (.float .f64 b)) (h : fEq a b = c) : Pu P C n l (.binOp .eql t x y t') ty (.bool c) := by
  subst h
  exact pu_feql hx hy
theorem pu_fle (hx : ev l x = some (.float .f64 a)) (hy : ev l y = some (.float .f64 b)) (h : fLe a b = c) : Pu P C n l (.binOp .leq t x y t') ty (.bool c) := by
  subst h
  unfold Pu
  intro q _ _ _ _ W hs _
  simp only [execOp, hs.ev hx, hs.ev hy]
  simp [go_sem, fLe, fLt, fEq]
theorem pu_fneg (hx : ev l x = some (.float .f64 a)) (ha : a < 18446744073709551616) (h : fneg a = true) : Pu P C n l (.unOp .neg t x) ty (.float .f64 (absF a)) := by
  rw [← neg_top ha h]
  unfold Pu
  intro q _ _ _ _ W hs _
  simp only [execOp, hs.ev hx]
  simp [go_sem, Op.unary, Op.negFloat]
  rfl
end
theorem nth_Cm {φ : Prop} (h : φ := by (first | rfl | rfl)) : φ := h
theorem mid_Cm {φ : Prop} (h : φ := by (first | exact Mid.all | exact Mid.all | exact Mid.head)) : φ := h
theorem sz_Cm {φ : Prop} (h : φ := by (first | rfl | (rfl; first | done | fail))) : φ := h
theorem one_Cm {φ : Prop} (h : φ := by (first | assumption | exact one_bytes _ | (simp only [List.mem_cons, List.not_mem_nil, or_false, forall_eq_or_imp, forall_eq]; decide) | exact one_bytes _)) : φ := h
theorem set_Cm {φ : Prop} (h : φ := by (first | (fail) | ((repeat (first | exact SetAt.here | apply SetAt.there)); first | done | fail))) : φ := h
theorem cl_Cm {φ : Prop} (h : φ := by first | rfl | exact .t | exact .f | exact .t (by omega) | exact .f (by omega) | exact .u | exact .i (by (first | exact .t (by omega) | exact .f (by omega) | exact .u | exact .i (by omega) | exact .v (by omega) | exact .b (by omega) | exact .w | rfl | omega)) | exact .v (by omega) | exact .b (by omega) | exact .q (by omega) | exact .w | exact .b (by exact at_) rfl (by exact nth_Cm) | exact .w (by exact at_) rfl rfl (by exact sz_Cm) | exact .s (by exact at_) (by exact mid_Cm) rfl rfl (by exact sz_Cm) | exact .z rfl rfl ⟨by kernel_rfl⟩ | exact .b rfl rfl ⟨by kernel_rfl⟩ | exact .a rfl rfl ⟨by kernel_rfl⟩ | exact .o rfl | exact .s | exact .n | exact .p rfl | exact .q rfl | exact .c rfl | exact .d rfl | exact .n rfl rfl (by omega) | exact .a rfl rfl (by omega) | exact .p rfl rfl (by omega) (by omega) | exact .y rfl rfl (by omega) (by omega) | exact .o (by exact at_) (by omega) rfl (by exact nth_Cm) | exact .m (by exact at_) (by omega) (by exact mid_Cm) rfl rfl (by exact sz_Cm) | exact .mlen (by exact at_) rfl | exact .t (by exact at_) rfl rfl (by first | exact True.intro | rfl) (by assumption) | exact .f (by exact at_) rfl rfl (by first | exact True.intro | rfl) (by assumption) rfl | exact .t1 (by exact at_) rfl rfl (by first | exact True.intro | rfl) (by assumption) | exact .f1 (by exact at_) rfl rfl (by first | exact True.intro | rfl) (by assumption) rfl | exact .r rfl rfl (by omega) (by omega) (by exact nth_Cm) rfl | exact .s rfl (by omega) (by assumption) | exact at_ | assumption | exact .r rfl rfl | exact .h rfl rfl rfl (by omega) | exact .l rfl rfl rfl (by omega) (by omega) | exact .g rfl rfl rfl rfl (by omega) (by omega) | exact .h rfl rfl (toN_ (by omega)) (by omega) | exact .l rfl rfl (toN_ (by omega)) (by omega) (by omega) | exact .g rfl rfl (toN_ (by omega)) (toN_ (by omega)) (by omega) (by omega) | exact .o (by decide) | exact .f (by decide) | exact .n (by omega) (by first | decide | (show _ ≤ ((64 : Nat) : Int); omega)) | (constructor; (repeat (first | exact .t (by omega) | exact .f (by omega) | exact .u | exact .i (by omega) | exact .v (by omega) | exact .b (by omega) | exact .w | rfl | omega)); first | done | fail) | omega | (show _ ≤ ((64 : Nat) : Int); omega)) : φ := h
theorem pv_Cm {φ : Prop} (h : φ := by constructor; (repeat exact cl_Cm); first | done | fail) : φ := h
theorem su_Cm {φ ψ : Prop} (k : ψ) (h : Hide ψ → φ := by (intro k; (first | refine sl_pu (PuI.sep (by exact pv_Cm)) rfl ?_ | refine sl_yes rfl rfl ?_ | refine sl_no rfl rfl rfl ?_ | refine sl_off rfl rfl rfl ?_ | (first | refine sl_pu (pu_fnn rfl rfl (by assumption)) rfl ?_ | refine sl_pu (pu_fls rfl rfl (by assumption)) rfl ?_ | refine sl_pu (pu_fgt rfl rfl (by assumption)) rfl ?_ | refine sl_pu (pu_fe rfl rfl (by assumption)) rfl ?_ | refine sl_pu (pu_fle rfl rfl (by assumption)) rfl ?_ | refine sl_pu (pu_fneg rfl (by assumption) (by assumption)) rfl ?_)); exact k.out)) : φ := h ⟨k⟩
theorem rq_Cm {φ ψ : Prop} (k : ψ) (h : Hide ψ → φ := by (intro k; (first | refine wq_pu (PuI.sep (by exact pv_Cm)) rfl ?_ | refine wq_yes rfl rfl ?_ | refine wq_no rfl rfl rfl ?_ | refine wq_off rfl rfl rfl ?_ | (fail)); exact k.out)) : φ := h ⟨k⟩
theorem sto_Cm {φ ψ : Prop} (k : ψ) (h : Hide ψ → φ := by (intro k; (first | refine sl_store rfl (by exact pick_) rfl rfl (by kernel_rfl) (by exact set_Cm) ?_ | refine sl_store_whole rfl (by exact pick_) rfl (by exact sz_Cm) (by exact sz_Cm) (by exact one_Cm) ?_); exact k.out)) : φ := h ⟨k⟩
theorem go_Cm {φ ψ : Prop} (k : ψ) (h : Hide ψ → φ := by (intro k; (repeat (first | refine su_Cm ?_ | refine so_ ?_ | refine sto_Cm ?_)); exact k.out)) : φ := h ⟨k⟩
theorem andNot_top {x : Nat} (hx : x < 18446744073709551616) : (bits .andNot .u64 (x : Int) 9223372036854775808).toNat = absF x := by
  rw [u64_andNot (x : Int) 9223372036854775808 (by omega) (by omega) (by decide) (by decide), Int.toNat_natCast, Int.toNat_natCast]
  show x &&& (18446744073709551615 - 9223372036854775808) = absF x
  rw [show 18446744073709551615 - 9223372036854775808 = 2 ^ 63 - 1 by decide, Nat.and_two_pow_sub_one_eq_mod]
  rfl
set_option maxRecDepth 100000 in
theorem abs_ok {K : List Fa} {x : Nat} (hx : x < 18446744073709551616) : Fn Try.prog 31 #[.float .f64 x] K (Ret (fun _ : Unit => True) (fun _ => .float .f64 (absF x)) (fun _ => K)) := by
  refine fn_enter Try.func31 rfl _ Try.ntmps31 (by simp) [(0, .float .f64 x)] (args_of (by simp)) ?_
  refine go_Cm ?_
  refine sl_pu (pu_ext (cap := []) rfl rfl (fun W _ => run_bits x W)) rfl ?_
  refine sl_pu (pu_andNot rfl rfl) rfl ?_
  refine sl_pu (pu_ext (cap := []) rfl rfl (fun W _ => run_frombits _ W)) rfl ?_
  rw [andNot_top hx]
  refine go_Cm ?_
  exact se_ret1 () trivial rfl rfl (by exact sub_)
def clV (x lo hi : Nat) : Nat × Int := if fnan lo || fnan hi then (0, 28) else if fLt hi lo then (0, 6) else if fnan x || fLt x lo then (lo, 0) else if fLt hi x then (hi, 0) else (x, 0)
theorem clV_lt {x lo hi : Nat} (hx : x < 18446744073709551616) (h1 : lo < 18446744073709551616) (h2 : hi < 18446744073709551616) : (clV x lo hi).1 < 18446744073709551616 := by
  unfold clV
  repeat' split
  all_goals first | assumption | decide
theorem just_self (x : Nat) : justF x x = true := by
  unfold justF
  cases h : fnan x with
  | true => rfl
  | false =>
    have : fEq x x = true := fEq_self h
    rw [this]
    simp
set_option maxRecDepth 100000 in
set_option maxHeartbeats 2000000 in
theorem clamp_ok {K : List Fa} {x lo hi : Nat} : Fn Try.prog 15 #[.float .f64 x, .float .f64 lo, .float .f64 hi] K (Ret (fun _ : Unit => True) (fun _ => .tuple #[.float .f64 (clV x lo hi).1, .int .i64 (clV x lo hi).2]) (fun _ => K)) := by
  refine fn_enter Try.func15 rfl _ Try.ntmps15 (by simp) [(0, .float .f64 x), (1, .float .f64 lo), (2, .float .f64 hi)] (args_of (by simp)) ?_
  refine go_Cm ?_
  refine sl_call rfl rfl (by kernel_rfl) rfl Sub.refl (fn_same (isNaN_c lo)) ?_
  rintro _ -
  cases h1 : fnan lo with
  | true =>
    rw [show clV x lo hi = (0, 28) by simp [clV, h1]]
    refine go_Cm ?_
    exact se_ret2 () trivial rfl rfl rfl rfl (by exact sub_)
  | false =>
  refine go_Cm ?_
  refine sl_call rfl rfl (by kernel_rfl) rfl Sub.refl (fn_same (isNaN_c hi)) ?_
  rintro _ -
  cases h2 : fnan hi with
  | true =>
    rw [show clV x lo hi = (0, 28) by simp [clV, h2]]
    refine go_Cm ?_
    exact se_ret2 () trivial rfl rfl rfl rfl (by exact sub_)
  | false =>
  cases h3 : fLt hi lo with
  | true =>
    rw [show clV x lo hi = (0, 6) by simp [clV, h1, h2, h3]]
    refine go_Cm ?_
    exact se_ret2 () trivial rfl rfl rfl rfl (by exact sub_)
  | false =>
  refine go_Cm ?_
  refine sl_call rfl rfl (by kernel_rfl) rfl Sub.refl (fn_same (isNaN_c x)) ?_
  rintro _ -
  cases h4 : fnan x with
  | true =>
    rw [show clV x lo hi = (lo, 0) by simp [clV, h1, h2, h3, h4]]
    refine go_Cm ?_
    exact se_ret2 () trivial rfl rfl rfl rfl (by exact sub_)
  | false =>
  cases h5 : fLt x lo with
  | true =>
    rw [show clV x lo hi = (lo, 0) by simp [clV, h1, h2, h3, h4, h5]]
    refine go_Cm ?_
    exact se_ret2 () trivial rfl rfl rfl rfl (by exact sub_)
  | false =>
  cases h6 : fLt hi x with
  | true =>
    rw [show clV x lo hi = (hi, 0) by simp [clV, h1, h2, h3, h4, h5, h6]]
    refine go_Cm ?_
    exact se_ret2 () trivial rfl rfl rfl rfl (by exact sub_)
  | false =>
    rw [show clV x lo hi = (x, 0) by simp [clV, h1, h2, h3, h4, h5, h6]]
    refine go_Cm ?_
    exact se_ret2 () trivial rfl rfl rfl rfl (by exact sub_)
set_option maxRecDepth 100000 in
set_option maxHeartbeats 2000000 in
theorem near_ok {K : List Fa} {a b k : Nat} : Fn Try.prog 16 #[.float .f64 a, .float .f64 b, .float .f64 k] K (Ret (fun _ : Unit => True) (fun _ => .bool (nearF a b k)) (fun _ => K)) := by
  refine fn_enter Try.func16 rfl _ Try.ntmps16 (by simp) [(0, .float .f64 a), (1, .float .f64 b), (2, .float .f64 k)] (args_of (by simp)) ?_
  refine go_Cm ?_
  refine sl_call rfl rfl (by kernel_rfl) rfl Sub.refl (fn_same (same_c a b)) ?_
  rintro _ -
  cases h1 : sameF a b with
  | true =>
    rw [show nearF a b k = true by unfold nearF; rw [h1]; rfl]
    refine go_Cm ?_
    exact se_ret1 () trivial rfl rfl (by exact sub_)
  | false =>
  refine go_Cm ?_
  refine sl_fsub rfl rfl rfl (fun r hr => ?_) (fun hr r hn hrl => ?_)
  · refine go_Cm ?_
    refine sl_call rfl rfl (by kernel_rfl) rfl Sub.refl (abs_ok (sub_lt hr)) ?_
    rintro _ -
    obtain ⟨c, hc⟩ : ∃ c, fLe (absF r) k = c := ⟨_, rfl⟩
    rw [show nearF a b k = c by unfold nearF; rw [h1, hr]; exact hc]
    refine go_Cm ?_
    exact se_ret1 () trivial rfl rfl (by exact sub_)
  · refine go_Cm ?_
    refine sl_call rfl rfl (by kernel_rfl) rfl Sub.refl (abs_ok hrl) ?_
    rintro _ -
    have hc : fLe (absF r) k = false := le_nan (by rw [nan_abs]; exact hn)
    rw [show nearF a b k = false by unfold nearF; rw [h1, hr]; rfl]
    refine go_Cm ?_
    exact se_ret1 () trivial rfl rfl (by exact sub_)
end Go.Proofs.Ytidphdlhghgglaa
