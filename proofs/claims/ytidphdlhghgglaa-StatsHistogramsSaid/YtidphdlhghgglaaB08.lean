/- Several texts of one claim, one behind the other (Cm, Az, Fr). -/
import Derived.Test.YtidphdlhghgglaaB07
import Derived.Laws.BitsAllLaws
set_option linter.unusedVariables false
/- Steps on floats; Abs, Clamp, Near over facts. -/
namespace Go.Proofs.Ytidphdlhghgglaa
open Go.RowKit
attribute [local irreducible] Go.Calls Go.Exit.then Go.Exit.inBlock Go.bodyPost Go.Code.wp Go.wpList
theorem nan_rung {x : Nat} (h : 9218868437227405312 < x % 9223372036854775808) : fnan x = true := by
  rw [fnan_eq]
  unfold Ieee.Format.read
  simp only [sw_eq, bi_eq, ir_eq]
  rw [if_neg (by omega), if_neg (by omega), if_neg (by omega)]
  rfl
section
variable {P : Program} {C : World → Prop} {ops : Array Oper} {Q : Exit → Act → World → Prop} {n : Nat} {l : Env} {L : List Fa} {rest : List Oper} {d : Tmp} {t t' ty : TypeId} {pos : String} {after : Array Edge} {x y : Operand} {a b : Nat} {c : Bool}
theorem sl_fsub (hx : ev l x = some (.float .f64 a)) (hy : ev l y = some (.float .f64 b)) (hd : Nat.blt d n = true) (h1 : ∀ r, subF a b = some r → SL P ops Q rest n ((d, .float .f64 r) :: l) L) (h0 : subF a b = none → ∀ r, fnan r = true → r < 18446744073709551616 → SL P ops Q rest n ((d, .float .f64 r) :: l) L) :
    SL P ops Q (⟨some d, .binOp .sub t x y t', ty, pos, after, none⟩ :: rest) n l L := sl_of fun w hw => by
  cases h : subF a b with
  | some r =>
    refine wl_run (v := .float .f64 r) (w' := w) ?_ hd ((h1 r h).to hw)
    unfold Ru
    intro q _ _ _ _ hs
    have h' : FloatKind.f64.format.sub a b = some r := h
    simp only [execOp, hs.ev hx, hs.ev hy]
    simp [go_sem, binOp, Op.floatArith, h']
  | none =>
    have h' : FloatKind.f64.format.sub a b = none := h
    have hb : ∀ u : Nat, (u % 2 * 2 ^ 63 + 0x7ff0000000000000 + 1 + u / 2 % (2 ^ 52 - 1)) % 9223372036854775808 = 0x7ff0000000000000 + 1 + u / 2 % (2 ^ 52 - 1) ∧ u % 2 * 2 ^ 63 + 0x7ff0000000000000 + 1 + u / 2 % (2 ^ 52 - 1) < 18446744073709551616 := fun u => by
      have h1 := Nat.mod_lt (u / 2) (by decide : 0 < 2 ^ 52 - 1)
      constructor <;> omega
    have hq := hb (w.tape w.drawn (.nanBits .f64 a b))
    refine wl_run (v := .float .f64 ((Question.nanBits .f64 a b).cut (w.tape w.drawn (.nanBits .f64 a b)))) (w' := w.drew) ?_ hd ((h0 h _ (nan_rung ?_) ?_).to (hw.nil ((Fr.refl Nil w).drew)))
    · unfold Ru
      intro q _ _ _ _ hs
      simp only [execOp, hs.ev hx, hs.ev hy]
      simp [go_sem, binOp, Op.floatArith, h', Question.forced]
    · show _ < (_ + 0x7ff0000000000000 + 1 + _) % 9223372036854775808
      rw [hq.1]
      omega
    · exact hq.2
theorem pu_fnn (hx : ev l x = some (.float .f64 a)) (hy : ev l y = some (.float .f64 a)) (h : fnan a = c) : Pu P C n l (.binOp .neq t x y t') ty (.bool c) := by
  subst h
  unfold Pu
  intro q _ _ _ _ W hs _
  simp only [execOp, hs.ev hx, hs.ev hy]
  simp [go_sem, fnan, fEq]
  rfl
theorem pu_fls (hx : ev l x = some (.float .f64 a)) (hy : ev l y = some (.float .f64 b)) (h : fLt a b = c) : Pu P C n l (.binOp .lss t x y t') ty (.bool c) := by
  subst h
  exact pu_flss hx hy
theorem pu_fgt (hx : ev l x = some (.float .f64 a)) (hy : ev l y = some (.float .f64 b)) (h : fLt b a = c) : Pu P C n l (.binOp .gtr t x y t') ty (.bool c) := by
  subst h
  unfold Pu
  intro q _ _ _ _ W hs _
  simp only [execOp, hs.ev hx, hs.ev hy]
  simp [go_sem, ← fGt_eq]
theorem pu_fe (hx : ev l x = some (.float .f64 a)) (hy : ev l y = some (.float .f64 b)) (h : fEq a b = c) : Pu P C n l (.binOp .eql t x y t') ty (.bool c) := by
  subst h
  exact pu_feql hx hy
theorem pu_fle (hx : ev l x = some (.float .f64 a)) (hy : ev l y = some (.float .f64 b)) (h : fLe a b = c) : Pu P C n l (.binOp .leq t x y t') ty (.bool c) := by
  subst h
  unfold Pu
  intro q _ _ _ _ W hs _
  simp only [execOp, hs.ev hx, hs.ev hy]
  simp [go_sem, fLe, fLt, fEq]
theorem pu_fneg (hx : ev l x = some (.float .f64 a)) (ha : a < 18446744073709551616) (h : fneg a = true) : Pu P C n l (.unOp .neg t x) ty (.float .f64 (absF a)) := by
  rw [← neg_top ha h]
  unfold Pu
  intro q _ _ _ _ W hs _
  simp only [execOp, hs.ev hx]
  simp [go_sem, Op.unary, Op.negFloat]
  rfl
end
theorem nth_Cm {φ : Prop} (h : φ := by (first | rfl | rfl)) : φ := h
theorem mid_Cm {φ : Prop} (h : φ := by (first | exact Mid.all | exact Mid.all | exact Mid.head)) : φ := h
theorem sz_Cm {φ : Prop} (h : φ := by (first | rfl | (rfl; first | done | fail))) : φ := h
theorem one_Cm {φ : Prop} (h : φ := by (first | assumption | exact one_bytes _ | (simp only [List.mem_cons, List.not_mem_nil, or_false, forall_eq_or_imp, forall_eq]; decide) | exact one_bytes _)) : φ := h
theorem set_Cm {φ : Prop} (h : φ := by (first | (fail) | ((repeat (first | exact SetAt.here | apply SetAt.there)); first | done | fail))) : φ := h
theorem cl_Cm {φ : Prop} (h : φ := by first | rfl | exact .t | exact .f | exact .t (by omega) | exact .f (by omega) | exact .u | exact .i (by (first | exact .t (by omega) | exact .f (by omega) | exact .u | exact .i (by omega) | exact .v (by omega) | exact .b (by omega) | exact .w | rfl | omega)) | exact .v (by omega) | exact .b (by omega) | exact .q (by omega) | exact .w | exact .b (by exact at_) rfl (by exact nth_Cm) | exact .w (by exact at_) rfl rfl (by exact sz_Cm) | exact .s (by exact at_) (by exact mid_Cm) rfl rfl (by exact sz_Cm) | exact .z rfl rfl ⟨by kernel_rfl⟩ | exact .b rfl rfl ⟨by kernel_rfl⟩ | exact .a rfl rfl ⟨by kernel_rfl⟩ | exact .o rfl | exact .s | exact .n | exact .p rfl | exact .q rfl | exact .c rfl | exact .d rfl | exact .n rfl rfl (by omega) | exact .a rfl rfl (by omega) | exact .p rfl rfl (by omega) (by omega) | exact .y rfl rfl (by omega) (by omega) | exact .o (by exact at_) (by omega) rfl (by exact nth_Cm) | exact .m (by exact at_) (by omega) (by exact mid_Cm) rfl rfl (by exact sz_Cm) | exact .mlen (by exact at_) rfl | exact .t (by exact at_) rfl rfl (by first | exact True.intro | rfl) (by assumption) | exact .f (by exact at_) rfl rfl (by first | exact True.intro | rfl) (by assumption) rfl | exact .t1 (by exact at_) rfl rfl (by first | exact True.intro | rfl) (by assumption) | exact .f1 (by exact at_) rfl rfl (by first | exact True.intro | rfl) (by assumption) rfl | exact .r rfl rfl (by omega) (by omega) (by exact nth_Cm) rfl | exact .s rfl (by omega) (by assumption) | exact at_ | assumption | exact .r rfl rfl | exact .h rfl rfl rfl (by omega) | exact .l rfl rfl rfl (by omega) (by omega) | exact .g rfl rfl rfl rfl (by omega) (by omega) | exact .h rfl rfl (toN_ (by omega)) (by omega) | exact .l rfl rfl (toN_ (by omega)) (by omega) (by omega) | exact .g rfl rfl (toN_ (by omega)) (toN_ (by omega)) (by omega) (by omega) | exact .o (by decide) | exact .f (by decide) | exact .n (by omega) (by first | decide | (show _ ≤ ((64 : Nat) : Int); omega)) | (constructor; (repeat (first | exact .t (by omega) | exact .f (by omega) | exact .u | exact .i (by omega) | exact .v (by omega) | exact .b (by omega) | exact .w | rfl | omega)); first | done | fail) | omega | (show _ ≤ ((64 : Nat) : Int); omega)) : φ := h
theorem pv_Cm {φ : Prop} (h : φ := by constructor; (repeat exact cl_Cm); first | done | fail) : φ := h
theorem su_Cm {φ ψ : Prop} (k : ψ) (h : Hide ψ → φ := by (intro k; (first | refine sl_pu (PuI.sep (by exact pv_Cm)) rfl ?_ | refine sl_yes rfl rfl ?_ | refine sl_no rfl rfl rfl ?_ | refine sl_off rfl rfl rfl ?_ | (first | refine sl_pu (pu_fnn rfl rfl (by assumption)) rfl ?_ | refine sl_pu (pu_fls rfl rfl (by assumption)) rfl ?_ | refine sl_pu (pu_fgt rfl rfl (by assumption)) rfl ?_ | refine sl_pu (pu_fe rfl rfl (by assumption)) rfl ?_ | refine sl_pu (pu_fle rfl rfl (by assumption)) rfl ?_ | refine sl_pu (pu_fneg rfl (by assumption) (by assumption)) rfl ?_)); exact k.out)) : φ := h ⟨k⟩
theorem rq_Cm {φ ψ : Prop} (k : ψ) (h : Hide ψ → φ := by (intro k; (first | refine wq_pu (PuI.sep (by exact pv_Cm)) rfl ?_ | refine wq_yes rfl rfl ?_ | refine wq_no rfl rfl rfl ?_ | refine wq_off rfl rfl rfl ?_ | (fail)); exact k.out)) : φ := h ⟨k⟩
theorem sto_Cm {φ ψ : Prop} (k : ψ) (h : Hide ψ → φ := by (intro k; (first | refine sl_store rfl (by exact pick_) rfl rfl (by kernel_rfl) (by exact set_Cm) ?_ | refine sl_store_whole rfl (by exact pick_) rfl (by exact sz_Cm) (by exact sz_Cm) (by exact one_Cm) ?_); exact k.out)) : φ := h ⟨k⟩
theorem go_Cm {φ ψ : Prop} (k : ψ) (h : Hide ψ → φ := by (intro k; (repeat (first | refine su_Cm ?_ | refine so_ ?_ | refine sto_Cm ?_)); exact k.out)) : φ := h ⟨k⟩
theorem andNot_top {x : Nat} (hx : x < 18446744073709551616) : (bits .andNot .u64 (x : Int) 9223372036854775808).toNat = absF x := by
  rw [u64_andNot (x : Int) 9223372036854775808 (by omega) (by omega) (by decide) (by decide), Int.toNat_natCast, Int.toNat_natCast]
  show x &&& (18446744073709551615 - 9223372036854775808) = absF x
  rw [show 18446744073709551615 - 9223372036854775808 = 2 ^ 63 - 1 by decide, Nat.and_two_pow_sub_one_eq_mod]
  rfl
set_option maxRecDepth 100000 in
theorem abs_ok {K : List Fa} {x : Nat} (hx : x < 18446744073709551616) : Fn Try.prog 31 #[.float .f64 x] K (Ret (fun _ : Unit => True) (fun _ => .float .f64 (absF x)) (fun _ => K)) := by
  refine fn_enter Try.func31 rfl _ Try.ntmps31 (by simp) [(0, .float .f64 x)] (args_of (by simp)) ?_
  refine go_Cm ?_
  refine sl_pu (pu_ext (cap := []) rfl rfl (fun W _ => run_bits x W)) rfl ?_
  refine sl_pu (pu_andNot rfl rfl) rfl ?_
  refine sl_pu (pu_ext (cap := []) rfl rfl (fun W _ => run_frombits _ W)) rfl ?_
  rw [andNot_top hx]
  refine go_Cm ?_
  exact se_ret1 () trivial rfl rfl (by exact sub_)
def clV (x lo hi : Nat) : Nat × Int := if fnan lo || fnan hi then (0, 28) else if fLt hi lo then (0, 6) else if fnan x || fLt x lo then (lo, 0) else if fLt hi x then (hi, 0) else (x, 0)
theorem clV_lt {x lo hi : Nat} (hx : x < 18446744073709551616) (h1 : lo < 18446744073709551616) (h2 : hi < 18446744073709551616) : (clV x lo hi).1 < 18446744073709551616 := by
  unfold clV
  repeat' split
  all_goals first | assumption | decide
theorem just_self (x : Nat) : justF x x = true := by
  unfold justF
  cases h : fnan x with
  | true => rfl
  | false =>
    have : fEq x x = true := fEq_self h
    rw [this]
    simp
set_option maxRecDepth 100000 in
set_option maxHeartbeats 2000000 in
theorem clamp_ok {K : List Fa} {x lo hi : Nat} : Fn Try.prog 15 #[.float .f64 x, .float .f64 lo, .float .f64 hi] K (Ret (fun _ : Unit => True) (fun _ => .tuple #[.float .f64 (clV x lo hi).1, .int .i64 (clV x lo hi).2]) (fun _ => K)) := by
  refine fn_enter Try.func15 rfl _ Try.ntmps15 (by simp) [(0, .float .f64 x), (1, .float .f64 lo), (2, .float .f64 hi)] (args_of (by simp)) ?_
  refine go_Cm ?_
  refine sl_call rfl rfl (by kernel_rfl) rfl Sub.refl (fn_same (isNaN_c lo)) ?_
  rintro _ -
  cases h1 : fnan lo with
  | true =>
    rw [show clV x lo hi = (0, 28) by simp [clV, h1]]
    refine go_Cm ?_
    exact se_ret2 () trivial rfl rfl rfl rfl (by exact sub_)
  | false =>
  refine go_Cm ?_
  refine sl_call rfl rfl (by kernel_rfl) rfl Sub.refl (fn_same (isNaN_c hi)) ?_
  rintro _ -
  cases h2 : fnan hi with
  | true =>
    rw [show clV x lo hi = (0, 28) by simp [clV, h2]]
    refine go_Cm ?_
    exact se_ret2 () trivial rfl rfl rfl rfl (by exact sub_)
  | false =>
  cases h3 : fLt hi lo with
  | true =>
    rw [show clV x lo hi = (0, 6) by simp [clV, h1, h2, h3]]
    refine go_Cm ?_
    exact se_ret2 () trivial rfl rfl rfl rfl (by exact sub_)
  | false =>
  refine go_Cm ?_
  refine sl_call rfl rfl (by kernel_rfl) rfl Sub.refl (fn_same (isNaN_c x)) ?_
  rintro _ -
  cases h4 : fnan x with
  | true =>
    rw [show clV x lo hi = (lo, 0) by simp [clV, h1, h2, h3, h4]]
    refine go_Cm ?_
    exact se_ret2 () trivial rfl rfl rfl rfl (by exact sub_)
  | false =>
  cases h5 : fLt x lo with
  | true =>
    rw [show clV x lo hi = (lo, 0) by simp [clV, h1, h2, h3, h4, h5]]
    refine go_Cm ?_
    exact se_ret2 () trivial rfl rfl rfl rfl (by exact sub_)
  | false =>
  cases h6 : fLt hi x with
  | true =>
    rw [show clV x lo hi = (hi, 0) by simp [clV, h1, h2, h3, h4, h5, h6]]
    refine go_Cm ?_
    exact se_ret2 () trivial rfl rfl rfl rfl (by exact sub_)
  | false =>
    rw [show clV x lo hi = (x, 0) by simp [clV, h1, h2, h3, h4, h5, h6]]
    refine go_Cm ?_
    exact se_ret2 () trivial rfl rfl rfl rfl (by exact sub_)
set_option maxRecDepth 100000 in
set_option maxHeartbeats 2000000 in
theorem near_ok {K : List Fa} {a b k : Nat} : Fn Try.prog 16 #[.float .f64 a, .float .f64 b, .float .f64 k] K (Ret (fun _ : Unit => True) (fun _ => .bool (nearF a b k)) (fun _ => K)) := by
  refine fn_enter Try.func16 rfl _ Try.ntmps16 (by simp) [(0, .float .f64 a), (1, .float .f64 b), (2, .float .f64 k)] (args_of (by simp)) ?_
  refine go_Cm ?_
  refine sl_call rfl rfl (by kernel_rfl) rfl Sub.refl (fn_same (same_c a b)) ?_
  rintro _ -
  cases h1 : sameF a b with
  | true =>
    rw [show nearF a b k = true by unfold nearF; rw [h1]; rfl]
    refine go_Cm ?_
    exact se_ret1 () trivial rfl rfl (by exact sub_)
  | false =>
  refine go_Cm ?_
  refine sl_fsub rfl rfl rfl (fun r hr => ?_) (fun hr r hn hrl => ?_)
  · refine go_Cm ?_
    refine sl_call rfl rfl (by kernel_rfl) rfl Sub.refl (abs_ok (sub_lt hr)) ?_
    rintro _ -
    obtain ⟨c, hc⟩ : ∃ c, fLe (absF r) k = c := ⟨_, rfl⟩
    rw [show nearF a b k = c by unfold nearF; rw [h1, hr]; exact hc]
    refine go_Cm ?_
    exact se_ret1 () trivial rfl rfl (by exact sub_)
  · refine go_Cm ?_
    refine sl_call rfl rfl (by kernel_rfl) rfl Sub.refl (abs_ok hrl) ?_
    rintro _ -
    have hc : fLe (absF r) k = false := le_nan (by rw [nan_abs]; exact hn)
    rw [show nearF a b k = false by unfold nearF; rw [h1, hr]; rfl]
    refine go_Cm ?_
    exact se_ret1 () trivial rfl rfl (by exact sub_)
end Go.Proofs.Ytidphdlhghgglaa
/- append of zeros onto a row of one's own. Results of floats' operations, as far as they are told. No program is in sight. -/
namespace Go.Proofs.Ytidphdlhghgglaa
open Go.RowKit
section
variable {P : Program} {ops : Array Oper} {Q : Exit → Act → World → Prop} {n : Nat} {l : Env} {L L' : List Fa} {rest : List Oper} {d : Tmp} {ty t t' e : TypeId} {pos : String} {after : Array Edge} {x y : Operand} {k m c cb size bytes g : Nat} {A : Option Addr} {xs ys : List Value} {z : Value}
theorem zeros_one {z : Value} {m : Nat} (h : ∀ v ∈ z.cells.toList, v.oneCell' = true) : ∀ v ∈ zeros z m, v.oneCell' = true := by
  intro v hv
  unfold zeros Builtin.zeroCells at hv
  rw [Array.mem_toList_iff, Array.mem_map] at hv
  obtain ⟨i, hi, rfl⟩ := hv
  rw [Array.mem_range] at hi
  have hs : 0 < z.cells.size := by
    rcases Nat.eq_zero_or_pos z.cells.size with h0 | h0
    · rw [h0, Nat.mul_zero] at hi
      omega
    · exact h0
  have hlt := Nat.mod_lt i hs
  rw [getElem!_pos z.cells (i % z.cells.size) hlt]
  exact h _ (by simp)
theorem sl_app_zeros_own {kn : IntKind} (hx : ev l x = some (.slice A k c)) (hp : Pick (own e size A k c xs) L L') (hy : ev l y = some (.int .i64 (m : Int))) (ht : P.underlying t = some (.slice e)) (ht' : P.underlying t' = some (.int kn)) (hi : (P.info? e).map (fun i => (i.zero, i.size, i.bytes)) = some (some z, size, bytes)) (hzs : z.cells.size = size) (hsz : 0 < size) (hz1 : ∀ v ∈ z.cells.toList, v.oneCell' = true)
    (hm : 0 < m) (hd : Nat.blt d n = true) (h63 : k + m ≤ maxLen) (hby : (k + m) * bytes ≤ 140737488355328)
    (h : ∀ A' c', SL P ops Q rest n ((d, .slice A' (k + m) c') :: l) (own e size A' (k + m) c' (xs ++ zeros z m) :: L')) : SL P ops Q (⟨some d, .call { callee := .builtin .append, args := #[x, y], argTypes := #[t, t'] }, ty, pos, after, none⟩ :: rest) n l L := by
  by_cases hg : c < k + m
  · refine sl_app_zeros hx hy (Vw.of_own (c := c) (e := e) (At.of_mem ((hp.mem _).2 (.inl rfl)))) ht ht' hi hzs hsz hm hg hd h63 hby (fun g c' => ?_)
    exact sl_ent (Ent_.tail (fun w hw => (hw.pick hp).tl) (fun k ⟨y, hy, hk⟩ => ⟨y, (hp.mem y).2 (.inr hy), hk⟩)) (h _ c')
  · refine sl_of fun w hw => ?_
    obtain ⟨i, hi0, hz0, hz1, hz2⟩ := info_parts hi
    subst hz1 hz2
    have h2 := hw.pick hp
    have hO : w.ownsRow 0 e i.size (.slice A k c) k xs := by
      have := h2.hd
      unfold own at this
      exact this
    obtain ⟨g, rfl⟩ : ∃ g, A = some ⟨g, 0, none⟩ := by
      rcases hO.2 with h1 | ⟨g, cur, cc, he, _⟩
      · have : c = 0 := by
          injection h1.1
        omega
      · injection he with he
        exact ⟨g, he⟩
    obtain ⟨cur, hB, hkc, hcm, hcs, htk, hxl⟩ := own_open hO
    have hcl : cur.toList.length = c * i.size := by simpa using hcs
    have hroom : k + m ≤ c := by omega
    have hmul : (k + m) * i.size ≤ c * i.size := Nat.mul_le_mul_right _ hroom
    rw [Nat.add_mul] at hmul
    have hzl : (zeros z m).length = m * i.size := by rw [zeros_len, hzs]
    have h48 : ¬ (281474976710656 < (m : Int) * (i.bytes : Int)) := by
      have h3 : m * i.bytes ≤ (k + m) * i.bytes := Nat.mul_le_mul_right _ (by omega)
      rw [← Int.natCast_mul]
      omega
    have hw64 : IntKind.i64.wrap (m : Int) = m := by
      rw [IntKind.wrap_i64]
      unfold maxLen at h63
      omega
    have hneg : ¬ ((m : Int) < 0) := by omega
    have hns : ¬ (m * i.size = 0) := Nat.mul_ne_zero (by omega) (by omega)
    have hst := run_storeCells_cells (P := P) g (k * i.size) (zeros z m) 0 w (fun j hj => by rw [hB.cell, Array.getElem?_eq_getElem (by omega)]; rfl) (fun j hj => hB.frozen _) (zeros_one hz1)
    simp only [Nat.add_zero] at hst
    have hrun : (Builtin.append_ #[t, t'] ty #[.slice (some ⟨g, 0, none⟩) k c, .int .i64 m]).run P w = .ok (.slice (some ⟨g, 0, none⟩) (k + m) c) (w.setCells g (k * i.size) (zeros z m)) := by
      have hst' : (storeCells ⟨g, k * i.size, none⟩ (Builtin.zeroCells z.cells m).toList 0).run P w = .ok () (w.setCells g (k * i.size) (zeros z m)) := hst
      simp [Builtin.append_, run_underlying ht, run_underlying ht', sizeOf, typeInfo, zeroValue, hi0, hz0, asInt, asIntOf, hw64, hneg, hns, h48, hroom, Addr.add_lit, hst']
    have hB2 := setCells_mid (zeros z m) (k * i.size) w cur.toList (by simpa using hB) (by omega)
    refine wl_run (v := .slice (some ⟨g, 0, none⟩) (k + m) c) (w' := w.setCells g (k * i.size) (zeros z m)) ?_ hd ((h _ c).to (h2.step (setCells_fr _ _ _) (fun j _ e => by rw [own_F]; exact congrArg some e.symm) (own_mk (own_close (cur := (cur.toList.take (k * i.size) ++ zeros z m ++ cur.toList.drop (k * i.size + (zeros z m).length)).toArray) (by simpa using hB2) hroom hcm (by simp; omega) ?_ (by rw [List.length_append, Nat.add_mul]; omega))) (fun j hj => .inl (by rw [own_F] at hj ⊢; exact hj))))
    · unfold Ru
      intro a _ _ _ _ hs
      simp only [execOp, resolve, List.map_toArray, List.map_cons, List.map_nil, hs.ev hx, hs.ev hy]
      simp only [invoke, builtin, Sem.run_bind, Sem.run_pure, Result.andThen_ok, hrun]
    · rw [List.toList_toArray, htk, List.take_left']
      rw [List.length_append, Nat.add_mul]
      omega
end
def FOp (o : BinOp) (a b r : Nat) : Prop := r < 18446744073709551616 ∧ (floatBits o .f64 a b = some r ∨ (floatBits o .f64 a b = none ∧ fnan r = true))
section
variable {P : Program} {C : World → Prop} {ops : Array Oper} {Q : Exit → Act → World → Prop} {n : Nat} {l : Env} {L : List Fa} {rest : List Oper} {d : Tmp} {t t' ty : TypeId} {pos : String} {after : Array Edge} {x y : Operand} {a b : Nat} {o : BinOp}
theorem sl_fop (ho : o = .add ∨ o = .mul ∨ o = .quo) (hx : ev l x = some (.float .f64 a)) (hy : ev l y = some (.float .f64 b)) (hd : Nat.blt d n = true) (h1 : ∀ r, FOp o a b r → SL P ops Q rest n ((d, .float .f64 r) :: l) L) :
    SL P ops Q (⟨some d, .binOp o t x y t', ty, pos, after, none⟩ :: rest) n l L := sl_of fun w hw => by
  cases h : floatBits o .f64 a b with
  | some r =>
    have hlt : r < 18446744073709551616 := by
      have h2 := floatBits_wf h
      have h3 : (Lit.float .f64 r).wf = true ↔ r < 2 ^ 64 := by simp [Lit.wf]
      exact h3.1 h2
    refine wl_run (v := .float .f64 r) (w' := w) ?_ hd ((h1 r ⟨hlt, .inl h⟩).to hw)
    unfold Ru
    intro q _ _ _ _ hs
    simp only [execOp, hs.ev hx, hs.ev hy]
    have h4 := run_float_arith (P := P) w o t .f64 a b r h
    rcases ho with rfl | rfl | rfl
    all_goals
      unfold floatBits at h
      simp only at h
      simp [go_sem, binOp, Op.floatArith, h]
  | none =>
    have hb : ∀ u : Nat, (u % 2 * 2 ^ 63 + 0x7ff0000000000000 + 1 + u / 2 % (2 ^ 52 - 1)) % 9223372036854775808 = 0x7ff0000000000000 + 1 + u / 2 % (2 ^ 52 - 1) ∧ u % 2 * 2 ^ 63 + 0x7ff0000000000000 + 1 + u / 2 % (2 ^ 52 - 1) < 18446744073709551616 := fun u => by
      have h1 := Nat.mod_lt (u / 2) (by decide : 0 < 2 ^ 52 - 1)
      constructor <;> omega
    have hq := hb (w.tape w.drawn (.nanBits .f64 a b))
    have hn : fnan ((Question.nanBits .f64 a b).cut (w.tape w.drawn (.nanBits .f64 a b))) = true := nan_rung (by
      show _ < (_ + 0x7ff0000000000000 + 1 + _) % 9223372036854775808
      rw [hq.1]
      omega)
    refine wl_run (v := .float .f64 ((Question.nanBits .f64 a b).cut (w.tape w.drawn (.nanBits .f64 a b)))) (w' := w.drew) ?_ hd ((h1 _ ⟨hq.2, .inr ⟨h, hn⟩⟩).to (hw.nil ((Fr.refl Nil w).drew)))
    unfold Ru
    intro q _ _ _ _ hs
    simp only [execOp, hs.ev hx, hs.ev hy]
    rcases ho with rfl | rfl | rfl
    all_goals
      unfold floatBits at h
      simp only at h
      simp [go_sem, binOp, Op.floatArith, h, Question.forced]
theorem pu_i2f {k : IntKind} {m : Int} (hx : ev l x = some (.int k m)) (hs' : P.underlying t = some (.int k)) (hd' : P.underlying t' = some (.float .f64)) : Pu P C n l (.convert t t' x) ty (.float .f64 (floatOfInt .f64 m)) := by
  unfold Pu
  intro q _ _ _ _ W hs _
  simp only [execOp, hs.ev hx]
  simp [convert, run_underlying hs', run_underlying hd', Conv.intToFloat, floatOfInt]
end
/-- The same, or both no numbers. -/
def Jst (a b : Nat) : Prop := a = b ∨ (fnan a = true ∧ fnan b = true)
theorem Jst.refl (a : Nat) : Jst a a := .inl rfl
theorem Jst.just {a b : Nat} (h : Jst a b) : justF a b = true := by
  rcases h with rfl | ⟨h1, h2⟩
  · exact just_self a
  · unfold justF
    rw [h1, h2]
    rfl
theorem fb_nan {o : BinOp} (ho : o = .add ∨ o = .mul ∨ o = .quo) {a b : Nat} (h : fnan a = true ∨ fnan b = true) : floatBits o .f64 a b = none := by
  rw [fnan_eq, fnan_eq] at h
  have key : ∀ c d : Ieee.Datum, (c.isNaN = true ∨ d.isNaN = true) → c.sum d = none ∧ c.product d = none ∧ c.quotient (Ieee.double.fractionBits + 2) d = none := by
    intro c d h
    cases c <;> cases d <;> first | exact ⟨rfl, rfl, rfl⟩ | simp [Ieee.Datum.isNaN] at h
  obtain ⟨h1, h2, h3⟩ := key _ _ h
  rcases ho with rfl | rfl | rfl
  · show ((Ieee.double.read a).sum (Ieee.double.read b)).map Ieee.double.write = none
    rw [h1]
    rfl
  · show ((Ieee.double.read a).product (Ieee.double.read b)).map Ieee.double.write = none
    rw [h2]
    rfl
  · show ((Ieee.double.read a).quotient (Ieee.double.fractionBits + 2) (Ieee.double.read b)).map Ieee.double.write = none
    rw [h3]
    rfl
theorem FOp.jst {o : BinOp} (ho : o = .add ∨ o = .mul ∨ o = .quo) {a a' b b' r r' : Nat} (ha : Jst a a') (hb : Jst b b') (h : FOp o a b r) (h' : FOp o a' b' r') : Jst r r' := by
  have hnn : ∀ {x y z : Nat}, (fnan x = true ∨ fnan y = true) → FOp o x y z → fnan z = true := fun hx hz => by
    have := fb_nan ho hx
    rcases hz.2 with h1 | h1
    · rw [this] at h1
      cases h1
    · exact h1.2
  rcases ha with rfl | ⟨h1, h2⟩
  · rcases hb with rfl | ⟨h1, h2⟩
    · rcases h.2 with h3 | h3 <;> rcases h'.2 with h4 | h4
      · rw [h3] at h4
        injection h4 with h4
        exact .inl h4
      · rw [h3] at h4
        cases h4.1
      · rw [h4] at h3
        cases h3.1
      · exact .inr ⟨h3.2, h4.2⟩
    · exact .inr ⟨hnn (.inr h1) h, hnn (.inr h2) h'⟩
  · exact .inr ⟨hnn (.inl h1) h, hnn (.inl h2) h'⟩
end Go.Proofs.Ytidphdlhghgglaa
/- Floats made whole, downwards: what comes of it. Plain. -/
namespace Go.Proofs.Ytidphdlhghgglaa
open Go.RowKit
/-- One, as a value. -/
def uE : Nat := 1074
theorem uE_eq : uE = 1074 := rfl
def uN : Nat := 2 ^ uE
theorem uN_eq : uN = 2 ^ uE := rfl
theorem uN_pos : 0 < uN := Nat.two_pow_pos _
attribute [irreducible] uE uN
def fiN (n : Nat) : Nat := Ieee.double.nearest false n 0
def floF (x : Nat) : Nat := Ieee.double.write ((Ieee.double.read x).integral .down)
theorem cut_down (neg : Bool) (n drop : Nat) : Ieee.Toward.down.cut neg n drop = n / 2 ^ drop + (neg && n % 2 ^ drop != 0).toNat := by
  unfold Ieee.Toward.cut
  simp only
  by_cases h : drop ≤ n.log2 + 2
  · rw [Nat.min_eq_left h, Nat.shiftLeft_eq, Nat.one_mul]
  · rw [Nat.min_eq_right (by omega), Nat.shiftLeft_eq, Nat.one_mul]
    have h1 : n < 2 ^ (n.log2 + 2) := Nat.lt_of_lt_of_le (Nat.lt_log2_self (n := n)) (Nat.pow_le_pow_right (by decide) (by omega))
    have h2 : n < 2 ^ drop := Nat.lt_of_lt_of_le h1 (Nat.pow_le_pow_right (by decide) (by omega))
    rw [Nat.div_eq_of_lt h1, Nat.div_eq_of_lt h2, Nat.mod_eq_of_lt h1, Nat.mod_eq_of_lt h2]
/-- A whole number's word. -/
theorem lp_eq : Ieee.double.leastPlace = -1074 := by decide
theorem fb_eq : Ieee.double.fractionBits = 52 := by decide
theorem cut_even_ge (n drop : Nat) (neg : Bool) : n / 2 ^ drop ≤ Ieee.Toward.even.cut neg n drop := by
  unfold Ieee.Toward.cut
  simp only
  by_cases h : drop ≤ n.log2 + 2
  · rw [Nat.min_eq_left h, Nat.shiftLeft_eq, Nat.one_mul]
    exact Nat.le_add_right _ _
  · have h1 : n < 2 ^ (n.log2 + 2) := Nat.lt_of_lt_of_le (Nat.lt_log2_self (n := n)) (Nat.pow_le_pow_right (by decide) (by omega))
    have h2 : n < 2 ^ drop := Nat.lt_of_lt_of_le h1 (Nat.pow_le_pow_right (by decide) (by omega))
    rw [Nat.div_eq_of_lt h2]
    exact Nat.zero_le _
theorem near_whole {M : Nat} (hM : 0 < M) (neg : Bool) : ∃ r, (M.log2 + 1023) * 4503599627370496 ≤ r ∧ Ieee.double.nearest neg M 0 = Ieee.double.word neg (min r 9218868437227405312) := by
  unfold Ieee.Format.nearest
  rw [if_neg (by omega)]
  simp only [lp_eq, fb_eq, bi_eq, ir_eq]
  have hm : max ((0 : Int) + (M.log2 : Int) - ((52 : Nat) : Int)) (-1074) = (M.log2 : Int) - 52 := by omega
  rw [hm]
  have e1 : ((M.log2 : Int) - 52 - -1074).toNat = M.log2 + 1022 := by omega
  rw [e1]
  have hlo : 2 ^ M.log2 ≤ M := Nat.log2_self_le (by omega)
  have hk : 4503599627370496 ≤ Ieee.Toward.even.cut neg (M <<< ((0 : Int) - ((M.log2 : Int) - 52)).toNat) (((M.log2 : Int) - 52) - 0).toNat := by
    refine Nat.le_trans ?_ (cut_even_ge _ _ _)
    rw [Nat.shiftLeft_eq]
    by_cases h : M.log2 ≤ 52
    · have e2 : ((0 : Int) - ((M.log2 : Int) - 52)).toNat = 52 - M.log2 := by omega
      have e3 : (((M.log2 : Int) - 52) - 0).toNat = 0 := by omega
      rw [e2, e3, Nat.pow_zero, Nat.div_one]
      calc 4503599627370496 = 2 ^ M.log2 * 2 ^ (52 - M.log2) := by rw [← Nat.pow_add, show M.log2 + (52 - M.log2) = 52 by omega]
        _ ≤ M * 2 ^ (52 - M.log2) := Nat.mul_le_mul_right _ hlo
    · have e2 : ((0 : Int) - ((M.log2 : Int) - 52)).toNat = 0 := by omega
      have e3 : (((M.log2 : Int) - 52) - 0).toNat = M.log2 - 52 := by omega
      rw [e2, e3, Nat.pow_zero, Nat.mul_one, Nat.le_div_iff_mul_le (Nat.two_pow_pos _)]
      calc 4503599627370496 * 2 ^ (M.log2 - 52) = 2 ^ M.log2 := by rw [show (4503599627370496 : Nat) = 2 ^ 52 by decide, ← Nat.pow_add, show 52 + (M.log2 - 52) = M.log2 by omega]
        _ ≤ M := hlo
  generalize Ieee.Toward.even.cut neg (M <<< ((0 : Int) - ((M.log2 : Int) - 52)).toNat) (((M.log2 : Int) - 52) - 0).toNat = kept at hk ⊢
  generalize M.log2 = q
  refine ⟨(q + 1022) * 4503599627370496 + kept, ?_, rfl⟩
  rw [show q + 1023 = (q + 1022) + 1 from rfl, Nat.succ_mul]
  exact Nat.add_le_add_left hk _
/-- What a rung is worth. -/
theorem read_pos {r : Nat} (h : r ≤ 9218868437227405312) : Ieee.double.read r = if r < 4503599627370496 then .number false r (-1074) else if r < 9218868437227405312 then .number false (4503599627370496 + r % 4503599627370496) (-1074 + (r / 4503599627370496 - 1 : Nat)) else .infinity false := by
  unfold Ieee.Format.read
  simp only [sw_eq, bi_eq, ir_eq, lp_eq]
  rw [Nat.mod_eq_of_lt (by omega : r < 9223372036854775808), Nat.div_eq_of_lt (by omega : r < 9223372036854775808)]
  split
  · rfl
  · split
    · rfl
    · rw [if_pos (by omega)]
      rfl
theorem read_neg {r : Nat} (h : r ≤ 9218868437227405312) : Ieee.double.read (9223372036854775808 + r) = if r < 4503599627370496 then .number true r (-1074) else if r < 9218868437227405312 then .number true (4503599627370496 + r % 4503599627370496) (-1074 + (r / 4503599627370496 - 1 : Nat)) else .infinity true := by
  unfold Ieee.Format.read
  simp only [sw_eq, bi_eq, ir_eq, lp_eq]
  rw [show (9223372036854775808 + r) % 9223372036854775808 = r by omega, show (9223372036854775808 + r) / 9223372036854775808 = 1 by omega]
  split
  · rfl
  · split
    · rfl
    · rw [if_pos (by omega)]
      rfl
def fvR (r : Nat) : Nat := if r < 4503599627370496 then r else if r < 9218868437227405312 then (4503599627370496 + r % 4503599627370496) * 2 ^ (r / 4503599627370496 - 1) else big
theorem fv_pos {r : Nat} (h : r ≤ 9218868437227405312) : fv r = fvR r := by
  unfold fv fvR
  rw [read_pos h]
  split
  · simp [fvD, Ieee.signed]
  · split
    · rename_i h1 h2
      show (((4503599627370496 + r % 4503599627370496) <<< (-1074 + ((r / 4503599627370496 - 1 : Nat) : Int) + 1074).toNat : Nat) : Int) = _
      rw [show (-1074 + ((r / 4503599627370496 - 1 : Nat) : Int) + 1074).toNat = r / 4503599627370496 - 1 by omega, Nat.shiftLeft_eq]
    · rfl
theorem fv_neg {r : Nat} (h : r ≤ 9218868437227405312) : fv (9223372036854775808 + r) = -(fvR r : Int) := by
  unfold fv fvR
  rw [read_neg h]
  split
  · simp [fvD, Ieee.signed]
  · split
    · rename_i h1 h2
      show -(((4503599627370496 + r % 4503599627370496) <<< (-1074 + ((r / 4503599627370496 - 1 : Nat) : Int) + 1074).toNat : Nat) : Int) = _
      rw [show (-1074 + ((r / 4503599627370496 - 1 : Nat) : Int) + 1074).toNat = r / 4503599627370496 - 1 by omega, Nat.shiftLeft_eq]
    · rfl
theorem nan_pos {r : Nat} (h : r ≤ 9218868437227405312) : fnan r = false := by
  rw [fnan_eq, read_pos h]
  split
  · rfl
  · split <;> rfl
theorem nan_neg {r : Nat} (h : r ≤ 9218868437227405312) : fnan (9223372036854775808 + r) = false := by
  rw [fnan_eq, read_neg h]
  split
  · rfl
  · split <;> rfl
theorem fvR_lt {r s : Nat} (hs : s ≤ 9218868437227405312) (h : r < s) : fvR r < fvR s := by
  unfold fvR
  have hB : (4503599627370496 : Nat) = 2 ^ 52 := by decide
  have hbig : ∀ q f, f < 4503599627370496 → q ≤ 2046 → (4503599627370496 + f) * 2 ^ (q - 1) < big := fun q f hf hq => by
    rw [big_eq]
    have h4 : 4503599627370496 + f < 2 ^ 53 := by omega
    refine Nat.lt_of_lt_of_le (Nat.mul_lt_mul_of_lt_of_le h4 (Nat.pow_le_pow_right (by decide) (by rw [bigE_eq]; omega : q - 1 ≤ bigE - 155)) (Nat.two_pow_pos _)) ?_
    rw [← Nat.pow_add]
    exact Nat.pow_le_pow_right (by decide) (by rw [bigE_eq]; decide)
  by_cases h1 : r < 4503599627370496
  · rw [if_pos h1]
    by_cases h2 : s < 4503599627370496
    · rw [if_pos h2]; exact h
    · rw [if_neg h2]
      by_cases h3 : s < 9218868437227405312
      · rw [if_pos h3]
        have := Nat.one_le_two_pow (n := s / 4503599627370496 - 1)
        have h5 := Nat.mul_le_mul_left (4503599627370496 + s % 4503599627370496) this
        omega
      · rw [if_neg h3]
        have := hbig 1 0 (by decide) (by decide)
        omega
  · rw [if_neg h1, if_pos (by omega), if_neg (by omega)]
    by_cases h3 : s < 9218868437227405312
    · rw [if_pos h3]
      have hr := Nat.mod_lt r (by decide : 0 < 4503599627370496)
      rcases Nat.lt_or_ge (r / 4503599627370496) (s / 4503599627370496) with hq | hq
      · have e : s / 4503599627370496 - 1 = (r / 4503599627370496 - 1) + 1 + (s / 4503599627370496 - r / 4503599627370496 - 1) := by omega
        rw [e, Nat.pow_add, Nat.pow_succ]
        have p1 := Nat.two_pow_pos (r / 4503599627370496 - 1)
        have p2 := Nat.one_le_two_pow (n := s / 4503599627370496 - r / 4503599627370496 - 1)
        calc (4503599627370496 + r % 4503599627370496) * 2 ^ (r / 4503599627370496 - 1) < (4503599627370496 * 2) * 2 ^ (r / 4503599627370496 - 1) := Nat.mul_lt_mul_of_pos_right (by omega) p1
          _ = 4503599627370496 * (2 ^ (r / 4503599627370496 - 1) * 2 * 1) := by rw [Nat.mul_one, Nat.mul_assoc, Nat.mul_comm 2]
          _ ≤ 4503599627370496 * (2 ^ (r / 4503599627370496 - 1) * 2 * 2 ^ (s / 4503599627370496 - r / 4503599627370496 - 1)) := Nat.mul_le_mul_left _ (Nat.mul_le_mul_left _ p2)
          _ ≤ _ := Nat.mul_le_mul_right _ (Nat.le_add_right _ _)
      · have e : r / 4503599627370496 = s / 4503599627370496 := by omega
        rw [e]
        exact Nat.mul_lt_mul_of_pos_right (by omega) (Nat.two_pow_pos _)
    · rw [if_neg h3]
      exact hbig _ _ (Nat.mod_lt _ (by decide)) (by omega)
theorem fvR_le {r s : Nat} (hs : s ≤ 9218868437227405312) (h : r ≤ s) : fvR r ≤ fvR s := by
  rcases Nat.lt_or_ge r s with h1 | h1
  · exact Nat.le_of_lt (fvR_lt hs h1)
  · rw [Nat.le_antisymm h h1]
    exact Nat.le_refl _
/-- A word that is a number is a rung, or a rung with a sign. -/
theorem rung_of {x : Nat} (hx : x < 18446744073709551616) (hn : fnan x = false) : ∃ r, r ≤ 9218868437227405312 ∧ (x = r ∨ x = 9223372036854775808 + r) := by
  by_cases h : 9218868437227405312 < x % 9223372036854775808
  · exfalso
    have : fnan x = true := by
      rw [fnan_eq]
      unfold Ieee.Format.read
      simp only [sw_eq, bi_eq, ir_eq]
      rw [if_neg (by omega), if_neg (by omega), if_neg (by omega)]
      rfl
    rw [this] at hn
    cases hn
  · exact ⟨x % 9223372036854775808, by omega, by omega⟩
/-- The same value and the same sign: the same word. -/
theorem key_inj {x y : Nat} (hx : x < 18446744073709551616) (hy : y < 18446744073709551616) (nx : fnan x = false) (ny : fnan y = false) (h : key x = key y) : x = y := by
  have hp : fv x = fv y ∧ fneg x = fneg y := by
    unfold key at h
    cases hp : fneg x <;> cases hq : fneg y <;> rw [hp, hq] at h <;> simp at h ⊢ <;> omega
  obtain ⟨hv, hs⟩ := hp
  unfold fneg at hs
  rw [decide_eq_decide] at hs
  obtain ⟨r, hr, hr'⟩ := rung_of hx nx
  obtain ⟨s, hs1, hs'⟩ := rung_of hy ny
  have hrs : fvR r = fvR s := by
    rcases hr' with rfl | rfl
    · rcases hs' with rfl | rfl
      · rw [fv_pos hr, fv_pos hs1] at hv; omega
      · omega
    · rcases hs' with rfl | rfl
      · omega
      · rw [fv_neg hr, fv_neg hs1] at hv; omega
  have : r = s := by
    rcases Nat.lt_trichotomy r s with h1 | h1 | h1
    · have := fvR_lt hs1 h1; omega
    · exact h1
    · have := fvR_lt hr h1; omega
  omega
theorem fiN_all : ∀ n, n < 65 → fv (fiN n) = (n * uN : Nat) ∧ fiN n ≤ 9218868437227405312 := by
  have h : (List.range 65).all (fun n => decide (fvR (fiN n) = n * uN) && decide (fiN n ≤ 9218868437227405312)) = true := by decide +kernel
  intro n hn
  have h1 := List.all_eq_true.1 h n (List.mem_range.2 hn)
  simp only [Bool.and_eq_true, decide_eq_true_eq] at h1
  refine ⟨?_, h1.2⟩
  rw [fv_pos h1.2, h1.1]
theorem cut_val (s : Bool) (m : Nat) {i : Int} (hi : -1074 ≤ i) : Ieee.Toward.down.cut s (m <<< i.toNat) (-i).toNat = if s then (m <<< (i + 1074).toNat + (uN - 1)) / uN else m <<< (i + 1074).toNat / uN := by
  rw [cut_down]
  have hu := uN_eq
  have hE := uE_eq
  have hup := uN_pos
  have hval : m <<< (i + 1074).toNat = if 0 ≤ i then (m <<< i.toNat) * uN else m * 2 ^ (uE - (-i).toNat) := by
    split
    · rw [Nat.shiftLeft_eq, Nat.shiftLeft_eq, show (i + 1074).toNat = i.toNat + uE by omega, Nat.pow_add, hu, Nat.mul_assoc]
    · rw [Nat.shiftLeft_eq, show (i + 1074).toNat = uE - (-i).toNat by omega]
  have hsp : i < 0 → uN = 2 ^ (-i).toNat * 2 ^ (uE - (-i).toNat) := fun h => by rw [hu, ← Nat.pow_add, show (-i).toNat + (uE - (-i).toNat) = uE by omega]
  rw [hval]
  clear hval hu
  cases s with
  | false =>
    simp only [Bool.false_and, Bool.toNat_false, Nat.add_zero, Bool.false_eq_true, if_false]
    by_cases h0 : 0 ≤ i
    · rw [if_pos h0, show (-i).toNat = 0 by omega, Nat.pow_zero, Nat.div_one, Nat.mul_div_cancel _ hup]
    · rw [if_neg h0, hsp (by omega), show i.toNat = 0 by omega, Nat.shiftLeft_zero, Nat.mul_div_mul_right _ _ (Nat.two_pow_pos _)]
  | true =>
    simp only [Bool.true_and, if_true]
    by_cases h0 : 0 ≤ i
    · rw [if_pos h0, show (-i).toNat = 0 by omega, Nat.pow_zero, Nat.div_one, Nat.mod_one]
      rw [Nat.mul_comm (m <<< i.toNat), Nat.mul_add_div hup, Nat.div_eq_of_lt (by omega)]
      rfl
    · rw [if_neg h0, show i.toNat = 0 by omega, Nat.shiftLeft_zero]
      have e := hsp (by omega)
      generalize uN = u at e hup ⊢
      generalize 2 ^ (-i).toNat = a at e ⊢
      have hbp := Nat.two_pow_pos (uE - (-i).toNat)
      generalize 2 ^ (uE - (-i).toNat) = b at e hbp ⊢
      have hap : 0 < a := by
        rcases Nat.eq_zero_or_pos a with h | h
        · rw [h, Nat.zero_mul] at e; omega
        · exact h
      have hda := Nat.div_add_mod m a
      have hml := Nat.mod_lt m hap
      have hab := Nat.mul_pos hap hbp
      rw [e]
      by_cases hr : m % a = 0
      · rw [hr]
        have : m = a * (m / a) := by omega
        generalize m / a = q at this ⊢
        subst this
        rw [show a * q * b = a * b * q by rw [Nat.mul_assoc, Nat.mul_comm q, Nat.mul_assoc], Nat.mul_add_div hab, Nat.div_eq_of_lt (by omega)]
        rfl
      · rw [show ((m % a != 0).toNat) = 1 by simp [hr]]
        generalize m / a = q at hda ⊢
        generalize m % a = r at hda hml hr ⊢
        subst hda
        symm
        have h1 : r * b ≤ (a - 1) * b := Nat.mul_le_mul_right _ (by omega)
        have h2 : 1 * b ≤ r * b := Nat.mul_le_mul_right _ (by omega)
        have h3 : (a - 1) * b + b = a * b := by rw [← Nat.succ_mul, show (a - 1).succ = a by omega]
        rw [show (a * q + r) * b + (a * b - 1) = a * b * (q + 1) + (r * b - 1) by
          rw [Nat.add_mul, Nat.mul_add, Nat.mul_one, show a * q * b = a * b * q by rw [Nat.mul_assoc, Nat.mul_comm q, Nat.mul_assoc]]; omega]
        rw [Nat.mul_add_div hab, Nat.div_eq_of_lt (by omega), Nat.add_zero]
theorem fvD_num (s : Bool) (m : Nat) (i : Int) : fvD (.number s m i) = if s then -((m <<< (i + 1074).toNat : Nat) : Int) else ((m <<< (i + 1074).toNat : Nat) : Int) := rfl
theorem write_num (s : Bool) (m : Nat) (i : Int) : Ieee.double.write ((Ieee.Datum.number s m i).integral .down) = Ieee.double.nearest s (Ieee.Toward.down.cut s (m <<< i.toNat) (-i).toNat) 0 := rfl
theorem neg_num (s : Bool) (m : Nat) (i : Int) : (Ieee.Datum.number s m i).neg = s := rfl
/-- A number made whole. -/
theorem floF_num {x : Nat} (hx : x < 18446744073709551616) (hn : fnan x = false) (hb : fv x < big) (hb' : -(big : Int) < fv x) :
    floF x = Ieee.double.nearest (fneg x) (if fneg x then ((-fv x).toNat + (uN - 1)) / uN else (fv x).toNat / uN) 0 := by
  have hok := read_ok x
  have hneg := fneg_read hx
  unfold floF
  unfold fv at hb hb' ⊢
  rw [fnan_eq] at hn
  cases hd : Ieee.double.read x with
  | nan s f => rw [hd] at hn; cases hn
  | infinity s =>
    rw [hd] at hb hb'
    cases s
    · simp [fvD] at hb
    · simp [fvD] at hb'
  | number s m i =>
    rw [hd] at hok hneg
    rw [neg_num] at hneg
    obtain ⟨hi, -⟩ := hok
    rw [← hneg, write_num, cut_val s m hi, fvD_num]
    cases s
    · simp only [Bool.false_eq_true, if_false, Int.toNat_natCast]
    · simp only [if_true, Int.neg_neg, Int.toNat_natCast]
theorem floF_inf {x : Nat} (hx : x < 18446744073709551616) (hn : fnan x = false) (hb : fv x = big ∨ fv x = -(big : Int)) : floF x = x := by
  obtain ⟨r, hr, hr'⟩ := rung_of hx hn
  have hlt : r < 9218868437227405312 → fvR r < big := fun h => by
    have := fvR_lt (Nat.le_refl 9218868437227405312) h
    have e : fvR 9218868437227405312 = big := by
      unfold fvR
      rw [if_neg (by decide), if_neg (by decide)]
    omega
  have hbp : 0 < big := by rw [big_eq]; exact Nat.two_pow_pos _
  have hr2 : r = 9218868437227405312 := by
    rcases hr' with rfl | rfl
    · rw [fv_pos hr] at hb
      rcases Nat.lt_or_ge x 9218868437227405312 with h | h
      · have := hlt h; omega
      · omega
    · rw [fv_neg hr] at hb
      rcases Nat.lt_or_ge r 9218868437227405312 with h | h
      · have := hlt h; omega
      · omega
  subst hr2
  unfold floF
  rcases hr' with rfl | rfl
  · rw [read_pos (Nat.le_refl _), if_neg (by decide), if_neg (by decide)]
    rfl
  · rw [read_neg (Nat.le_refl _), if_neg (by decide), if_neg (by decide)]
    rfl
theorem word_eq (s : Bool) (r : Nat) : Ieee.double.word s r = if s then 9223372036854775808 + r else r := by
  unfold Ieee.Format.word
  rw [sw_eq]
/-- What lies below nought stays there. -/
theorem floF_neg {x : Nat} (hx : x < 18446744073709551616) (hn : fnan x = false) (h : fv x < 0) : fnan (floF x) = false ∧ fv (floF x) < 0 := by
  by_cases hb : fv x = -(big : Int)
  · rw [floF_inf hx hn (.inr hb)]
    exact ⟨hn, h⟩
  have hbb : (0 : Int) < big := by rw [big_eq]; exact_mod_cast Nat.two_pow_pos _
  have hlo : -(big : Int) ≤ fv x := by
    obtain ⟨r, hr, hr'⟩ := rung_of hx hn
    have hle := fvR_le (Nat.le_refl 9218868437227405312) hr
    have e : fvR 9218868437227405312 = big := by
      unfold fvR
      rw [if_neg (by decide), if_neg (by decide)]
    rcases hr' with rfl | rfl
    · rw [fv_pos hr]; omega
    · rw [fv_neg hr]; omega
  have hsg := fv_sign hx hn
  have hs : fneg x = true := by
    cases hq : fneg x with
    | true => rfl
    | false => rw [hq] at hsg; simp at hsg; omega
  rw [floF_num hx hn (by omega) (by omega), hs, if_pos rfl]
  have hM : 0 < ((-fv x).toNat + (uN - 1)) / uN := Nat.div_pos (by omega) uN_pos
  obtain ⟨r, hr, e⟩ := near_whole hM true
  rw [e, word_eq, if_pos rfl]
  refine ⟨nan_neg (Nat.min_le_right _ _), ?_⟩
  rw [fv_neg (Nat.min_le_right _ _)]
  have hr0 : 0 < r := Nat.lt_of_lt_of_le (Nat.mul_pos (Nat.succ_pos _) (by decide)) hr
  clear hr
  have h1 := fvR_lt (r := 0) (s := min r 9218868437227405312) (Nat.min_le_right _ _) (by omega)
  omega
/-- .. and what isn't below so much (up to 64) stays there. -/
theorem floF_ge {x k : Nat} (hx : x < 18446744073709551616) (hn : fnan x = false) (hk : k ≤ 64) (hk0 : 0 < k) (h : (k * uN : Nat) ≤ fv x) : fnan (floF x) = false ∧ (k * uN : Nat) ≤ fv (floF x) := by
  by_cases hb : fv x = big
  · rw [floF_inf hx hn (.inl hb)]
    exact ⟨hn, h⟩
  have hu := uN_pos
  have hku : 1 * uN ≤ k * uN := Nat.mul_le_mul_right _ hk0
  have hbb : (0 : Int) < big := by rw [big_eq]; exact_mod_cast Nat.two_pow_pos _
  have hlo : fv x ≤ big := by
    obtain ⟨r, hr, hr'⟩ := rung_of hx hn
    have hle := fvR_le (Nat.le_refl 9218868437227405312) hr
    have e : fvR 9218868437227405312 = big := by
      unfold fvR
      rw [if_neg (by decide), if_neg (by decide)]
    rcases hr' with rfl | rfl
    · rw [fv_pos hr]; omega
    · rw [fv_neg hr]; omega
  have hsg := fv_sign hx hn
  have hs : fneg x = false := by
    cases hq : fneg x with
    | false => rfl
    | true => rw [hq] at hsg; simp at hsg; omega
  rw [floF_num hx hn (by omega) (by omega), hs]
  simp only [Bool.false_eq_true, if_false]
  have hM : k ≤ (fv x).toNat / uN := (Nat.le_div_iff_mul_le hu).2 (by omega)
  generalize (fv x).toNat / uN = M at hM ⊢
  by_cases h64 : M < 65
  · obtain ⟨e1, e2⟩ := fiN_all M h64
    show fnan (fiN M) = false ∧ _ ≤ fv (fiN M)
    refine ⟨nan_pos e2, ?_⟩
    rw [e1]
    exact_mod_cast Nat.mul_le_mul_right _ hM
  · obtain ⟨r, hr, e⟩ := near_whole (M := M) (by omega) false
    rw [e, word_eq]
    simp only [Bool.false_eq_true, if_false]
    refine ⟨nan_pos (Nat.min_le_right _ _), ?_⟩
    rw [fv_pos (Nat.min_le_right _ _)]
    have hlg : 6 ≤ M.log2 := by
      rw [Nat.le_log2 (by omega)]
      omega
    obtain ⟨e1, e2⟩ := fiN_all k (by omega)
    obtain ⟨e3, e4⟩ := fiN_all 64 (by decide)
    have e5 : fiN 64 = 4634204016564240384 := by decide +kernel
    rw [fv_pos e4] at e3
    have h7 := fvR_le (r := fiN 64) (s := min r 9218868437227405312) (Nat.min_le_right _ _) (by
      rw [e5]
      refine Nat.le_min.2 ⟨Nat.le_trans ?_ hr, by decide⟩
      exact Nat.le_trans (by decide : 4634204016564240384 ≤ (6 + 1023) * 4503599627370496) (Nat.mul_le_mul_right _ (Nat.add_le_add_right hlg _)))
    clear hr
    have h8 : k * uN ≤ 64 * uN := Nat.mul_le_mul_right _ hk
    omega
/-- In between it is the whole number below. -/
theorem floF_in {x j : Nat} (hx : x < 18446744073709551616) (hn : fnan x = false) (hj : j < 64) (h : (j * uN : Nat) ≤ fv x) (h2 : fv x < ((j + 1) * uN : Nat)) : floF x = fiN j ∨ (j = 0 ∧ x = 9223372036854775808 ∧ floF x = 9223372036854775808) := by
  have hu := uN_pos
  have hbig : ((j + 1) * uN : Nat) < big := by
    rw [big_eq]
    have h1 : (j + 1) * uN ≤ 2 ^ 6 * 2 ^ uE := by rw [← uN_eq]; exact Nat.mul_le_mul (by omega) (Nat.le_refl _)
    refine Nat.lt_of_le_of_lt h1 ?_
    rw [← Nat.pow_add]
    exact Nat.pow_lt_pow_right (by decide) (by rw [bigE_eq, uE_eq]; decide)
  have h0 : (0 : Int) ≤ fv x := Int.le_trans (Int.natCast_nonneg _) h
  have hbb : (0 : Int) < big := by rw [big_eq]; exact_mod_cast Nat.two_pow_pos _
  cases hs : fneg x with
  | false =>
    left
    rw [floF_num hx hn (by omega) (by omega), hs]
    simp only [Bool.false_eq_true, if_false]
    have : (fv x).toNat / uN = j := by
      apply Nat.div_eq_of_lt_le
      · omega
      · omega
    rw [this]
    rfl
  | true =>
    right
    have hsg := fv_sign hx hn
    rw [hs] at hsg
    simp at hsg
    have hz : fv x = 0 := by omega
    obtain ⟨r, hr, hr'⟩ := rung_of hx hn
    have hr0 : r = 0 := by
      rcases Nat.eq_zero_or_pos r with h | h
      · exact h
      · have h1 := fvR_lt hr h
        have e0 : fvR 0 = 0 := by decide
        rcases hr' with rfl | rfl
        · rw [fv_pos hr] at hz; omega
        · rw [fv_neg hr] at hz; omega
    subst hr0
    have hx2 : x = 9223372036854775808 := by
      rcases hr' with rfl | rfl
      · simp [fneg] at hs
      · rfl
    subst hx2
    refine ⟨?_, rfl, by decide +kernel⟩
    rcases Nat.eq_zero_or_pos j with h3 | h3
    · exact h3
    · have := Nat.mul_pos h3 hu
      omega
end Go.Proofs.Ytidphdlhghgglaa
