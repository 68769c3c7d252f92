/- Two arrays of numbers: are they the same? No program is in sight. -/
import Derived.Test.YtdmeofobljjpfaaEq
import Derived.Test.YtdmeofobljjpfaaEs
namespace Go.Proofs.Ytdmeofobljjpfaa
open Go.RowKit
def nums (k : IntKind) (xs : List Int) : List Value := xs.map (Value.int k)
theorem range_all_eq : ∀ (xs ys : List Int), xs.length = ys.length → (List.range xs.length).all (fun i => xs.getD i 0 == ys.getD i 0) = (xs == ys)
  | [], [], _ => rfl
  | x :: xs, y :: ys, h => by
    have ih := range_all_eq xs ys (by simpa using h)
    rw [List.length_cons, List.range_succ_eq_map, List.all_cons, List.all_map]
    simp only [List.getD_cons_zero, Function.comp_def, List.getD_cons_succ, ih]
    simp [List.cons_beq_cons]
  | [], _ :: _, h => by simp at h
  | _ :: _, [], h => by simp at h
section
variable {P : Program} (w : World)
theorem run_equalIn_nums (d : Nat) (t e : TypeId) (n : Nat) (k k' : IntKind) (ht : P.underlying t = some (.array n e)) (he : P.underlying e = some (.int k')) (hsz : ∀ w, (sizeOf e).run P w = .ok 1 w)
    (xs ys : List Int) (hx : xs.length = n) (hy : ys.length = n) :
    (Op.equalIn (d + 2) t (.agg (nums k xs).toArray) (.agg (nums k ys).toArray)).run P w = .ok (xs == ys) w := by
  unfold nums
  rw [← range_all_eq xs ys (hx.trans hy.symm), hx, List.range_eq_range', Op.equalIn]
  simp only [Sem.run_bind, run_underlying ht, Result.andThen_ok, hsz, Std.Legacy.Range.forIn_eq_forIn_range', Std.Legacy.Range.size, Nat.sub_zero, Nat.add_sub_cancel, Nat.div_one]
  have hl : ∀ i ∈ List.range' 0 n 1, i < n := fun i hi => by simpa using (List.mem_range'_1.1 hi).2
  generalize List.range' 0 n 1 = l at hl ⊢
  induction l with
  | nil => simp
  | cons i l ih =>
    have hi : i < n := hl i (by simp)
    have px : (part e (xs.map (Value.int k)).toArray (i * 1)).run P w = .ok (.int k (xs.getD i 0)) w := by
      simp [part, isAgg, run_underlying he, List.getD, List.getElem?_eq_getElem (show i < xs.length by omega)]
    have py : (part e (ys.map (Value.int k)).toArray (i * 1)).run P w = .ok (.int k (ys.getD i 0)) w := by
      simp [part, isAgg, run_underlying he, List.getD, List.getElem?_eq_getElem (show i < ys.length by omega)]
    have pe : (Op.equalIn (d + 1) e (.int k (xs.getD i 0)) (.int k (ys.getD i 0))).run P w = .ok (xs.getD i 0 == ys.getD i 0) w := by
      rw [run_equalIn_int w d e k k' _ _ he]
    simp only [List.forIn_cons, Sem.run_bind, px, py, pe, Result.andThen_ok, List.all_cons]
    cases hb : (xs.getD i 0 == ys.getD i 0)
    · simp
    · simp only [Bool.not_true, Bool.false_eq_true, if_false, Sem.run_pure, Result.andThen_ok, Bool.true_and]
      exact ih fun j hj => hl j (by simp [hj])
end
section
variable {P : Program} {C : World → Prop} {n : Nat} {l : Env} {ty t t' e : TypeId} {x y : Operand} {xs ys : List Int} {N : Nat} {k k' : IntKind}
theorem pu_eqla (hx : ev l x = some (.agg (nums k xs).toArray)) (hy : ev l y = some (.agg (nums k ys).toArray)) (ht : P.underlying t = some (.array N e)) (he : P.underlying e = some (.int k')) (hz : szOf P e = some 1) (hg : P.eqGuardType P.depth t = false)
    (hxl : xs.length = N) (hyl : ys.length = N) : Pu P C n l (.binOp .eql t x y t') ty (.bool (decide (xs = ys))) := by
  unfold Pu
  intro a _ _ _ _ W hs _
  simp only [execOp, hs.ev hx, hs.ev hy]
  rw [Sem.run_bind, Sem.run_bind, run_eqGuard_agg (P := P) W _ t x y _ _ hg, Result.andThen_ok, run_eql_struct, run_equalIn_nums W 9998 t e N k k' ht he (run_size hz) xs ys hxl hyl]
  have e1 : (xs == ys) = decide (xs = ys) := by
    rw [Bool.eq_iff_iff]
    simp
  rw [e1]
  rfl
theorem pu_neqla (hx : ev l x = some (.agg (nums k xs).toArray)) (hy : ev l y = some (.agg (nums k ys).toArray)) (ht : P.underlying t = some (.array N e)) (he : P.underlying e = some (.int k')) (hz : szOf P e = some 1) (hg : P.eqGuardType P.depth t = false)
    (hxl : xs.length = N) (hyl : ys.length = N) : Pu P C n l (.binOp .neq t x y t') ty (.bool (!decide (xs = ys))) := by
  unfold Pu
  intro a _ _ _ _ W hs _
  simp only [execOp, hs.ev hx, hs.ev hy]
  rw [Sem.run_bind, Sem.run_bind, run_eqGuard_agg (P := P) W _ t x y _ _ hg, Result.andThen_ok, run_neq_struct, run_equalIn_nums W 9998 t e N k k' ht he (run_size hz) xs ys hxl hyl]
  have e1 : (xs == ys) = decide (xs = ys) := by
    rw [Bool.eq_iff_iff]
    simp
  rw [e1]
  rfl
end
end Go.Proofs.Ytdmeofobljjpfaa
