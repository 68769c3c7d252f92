/- Several texts of one claim, one behind the other. -/
import Derived.Test.YtocaabnbmcpjmaaGreatB03
import Derived.Test.YtocaabnbmcpjmaaGreatB01
import Derived.Laws.CopyOwn
import Derived.Laws.MakeOwn
import Derived.Lib.Overlaps
import Derived.Lib.AppendZerosOnto
import Derived.Test.YtocaabnbmcpjmaaGreatB02
import Derived.Maps.RangeRun
set_option linter.unusedVariables false
set_option linter.unusedSimpArgs false
namespace Go.Proofs.YtocaabnbmcpjmaaGreat
variable {φ ψ : Prop}
section
open Go.RowKit
section
variable {P : Program} {C : World → Prop} {n : Nat} {l : Env} {ty t t' : TypeId} {x y : Operand} {v : Value} {k k' : IntKind} {p q : Int} {A : Option Addr} {m c : Nat} {ad : Addr}
theorem pu_nilCheck (hx : ev l x = some (.pointer (some ad))) : Pu P C n l (.nilCheck x) ty (.pointer (some ad)) := by
 unfold Pu
 intro a _ _ _ _ W hs _
 simp [execOp, hs.ev hx]
theorem pu_ptr_some_eql {e : TypeId} (hx : ev l x = some (.pointer (some ad))) (hy : ev l y = some (.pointer none)) (ht : P.underlying t = some (.pointer e)) : Pu P C n l (.binOp .eql t x y t') ty (.bool false) := by
 unfold Pu
 intro a _ _ _ _ W hs _
 have hp : P.underlying t = some (.pointer (P.pointee t)) := by simp [Program.pointee, ht]
 simp only [execOp, hs.ev hx, hs.ev hy]
 rw [Sem.run_bind, Sem.run_bind]
 simp [go_sem, run_eql_pointer_nil W t _ hp]
theorem pu_ptr_none_eql {e : TypeId} (hx : ev l x = some (.pointer none)) (hy : ev l y = some (.pointer none)) (ht : P.underlying t = some (.pointer e)) : Pu P C n l (.binOp .eql t x y t') ty (.bool true) := by
 unfold Pu
 intro a _ _ _ _ W hs _
 have hp : P.underlying t = some (.pointer (P.pointee t)) := by simp [Program.pointee, ht]
 simp only [execOp, hs.ev hx, hs.ev hy]
 rw [Sem.run_bind, Sem.run_bind]
 simp [go_sem, run_eql_pointer_nil W t _ hp]
theorem pu_ptr_some_neq {e : TypeId} (hx : ev l x = some (.pointer (some ad))) (hy : ev l y = some (.pointer none)) (ht : P.underlying t = some (.pointer e)) : Pu P C n l (.binOp .neq t x y t') ty (.bool true) := by
 unfold Pu
 intro a _ _ _ _ W hs _
 have hp : P.underlying t = some (.pointer (P.pointee t)) := by simp [Program.pointee, ht]
 simp only [execOp, hs.ev hx, hs.ev hy]
 rw [Sem.run_bind, Sem.run_bind]
 simp [go_sem, run_neq_pointer_nil W t _ hp]
theorem pu_ptr_none_neq {e : TypeId} (hx : ev l x = some (.pointer none)) (hy : ev l y = some (.pointer none)) (ht : P.underlying t = some (.pointer e)) : Pu P C n l (.binOp .neq t x y t') ty (.bool false) := by
 unfold Pu
 intro a _ _ _ _ W hs _
 have hp : P.underlying t = some (.pointer (P.pointee t)) := by simp [Program.pointee, ht]
 simp only [execOp, hs.ev hx, hs.ev hy]
 rw [Sem.run_bind, Sem.run_bind]
 simp [go_sem, run_neq_pointer_nil W t _ hp]
theorem pu_slice_some_eql {e : TypeId} (hx : ev l x = some (.slice (some ad) m c)) (hy : ev l y = some (.slice none 0 0)) (ht : P.underlying t = some (.slice e)) : Pu P C n l (.binOp .eql t x y t') ty (.bool false) := by
 unfold Pu
 intro a _ _ _ _ W hs _
 simp only [execOp, hs.ev hx, hs.ev hy]
 rw [Sem.run_bind, Sem.run_bind]
 simp [go_sem, Lib.run_eql_slice_nil W t e _ _ _ _ _ ht]
theorem pu_slice_none_eql {e : TypeId} (hx : ev l x = some (.slice none m c)) (hy : ev l y = some (.slice none 0 0)) (ht : P.underlying t = some (.slice e)) : Pu P C n l (.binOp .eql t x y t') ty (.bool true) := by
 unfold Pu
 intro a _ _ _ _ W hs _
 simp only [execOp, hs.ev hx, hs.ev hy]
 rw [Sem.run_bind, Sem.run_bind]
 simp [go_sem, Lib.run_eql_slice_nil W t e _ _ _ _ _ ht]
theorem pu_slice_some_neq {e : TypeId} (hx : ev l x = some (.slice (some ad) m c)) (hy : ev l y = some (.slice none 0 0)) (ht : P.underlying t = some (.slice e)) : Pu P C n l (.binOp .neq t x y t') ty (.bool true) := by
 unfold Pu
 intro a _ _ _ _ W hs _
 simp only [execOp, hs.ev hx, hs.ev hy]
 rw [Sem.run_bind, Sem.run_bind]
 simp [go_sem, run_neq_slice_nil_any W t e _ _ _ _ _ ht]
theorem pu_slice_none_neq {e : TypeId} (hx : ev l x = some (.slice none m c)) (hy : ev l y = some (.slice none 0 0)) (ht : P.underlying t = some (.slice e)) : Pu P C n l (.binOp .neq t x y t') ty (.bool false) := by
 unfold Pu
 intro a _ _ _ _ W hs _
 simp only [execOp, hs.ev hx, hs.ev hy]
 rw [Sem.run_bind, Sem.run_bind]
 simp [go_sem, run_neq_slice_nil_any W t e _ _ _ _ _ ht]
theorem pu_eql_d (hx : ev l x = some (.int k p)) (hy : ev l y = some (.int k q)) : Pu P C n l (.binOp .eql t x y t') ty (.bool (decide (p = q))) := by
 have h := pu_eql (P := P) (C := C) (n := n) (ty := ty) (t := t) (t' := t') hx hy
 have e : decide (p = q) = (p == q) := by by_cases h : p = q <;> simp [h]
 rw [e]; exact h
theorem pu_neq_d (hx : ev l x = some (.int k p)) (hy : ev l y = some (.int k q)) : Pu P C n l (.binOp .neq t x y t') ty (.bool (!decide (p = q))) := by
 have h := pu_neq (P := P) (C := C) (n := n) (ty := ty) (t := t) (t' := t') hx hy
 have e : (!decide (p = q)) = (p != q) := by by_cases h : p = q <;> simp [h, bne]
 rw [e]; exact h
theorem pu_shr (hx : ev l x = some (.int k p)) (hy : ev l y = some (.int k' q)) (h0 : 0 ≤ q) (h1 : q ≤ k.bits) : Pu P C n l (.binOp .shr t x y t') ty (.int k (p / 2 ^ q.toNat)) := by
 unfold Pu
 intro a _ _ _ _ W hs _
 simp only [execOp, hs.ev hx, hs.ev hy, eqGuard_shr, binOp_shr, shift_shr k k' p q h0 h1]
 rfl
theorem pu_shr_1 (hx : ev l x = some (.int k p)) (hy : ev l y = some (.int k' 1)) (h1 : (1 : Int) ≤ k.bits) : Pu P C n l (.binOp .shr t x y t') ty (.int k (p / 2)) := by
 have := pu_shr (P := P) (C := C) (n := n) (ty := ty) (t := t) (t' := t') hx hy (by omega) h1
 simpa using this
theorem pu_shr_4 (hx : ev l x = some (.int k p)) (hy : ev l y = some (.int k' 4)) (h1 : (4 : Int) ≤ k.bits) : Pu P C n l (.binOp .shr t x y t') ty (.int k (p / 16)) := by
 have := pu_shr (P := P) (C := C) (n := n) (ty := ty) (t := t) (t' := t') hx hy (by omega) h1
 simpa using this
theorem pu_add_u (hx : ev l x = some (.int .u64 p)) (hy : ev l y = some (.int .u64 q)) (h : 0 ≤ p + q ∧ p + q ≤ 18446744073709551615) : Pu P C n l (.binOp .add t x y t') ty (.int .u64 (p + q)) := by
 have h1 := pu_add_w (P := P) (C := C) (n := n) (ty := ty) (t := t) (t' := t') hx hy
 rw [IntKind.wrap_u64, Int.emod_eq_of_lt h.1 (by omega)] at h1
 exact h1
theorem pu_sub_u (hx : ev l x = some (.int .u64 p)) (hy : ev l y = some (.int .u64 q)) (h : 0 ≤ p - q ∧ p - q ≤ 18446744073709551615) : Pu P C n l (.binOp .sub t x y t') ty (.int .u64 (p - q)) := by
 have h1 := pu_sub_w (P := P) (C := C) (n := n) (ty := ty) (t := t) (t' := t') hx hy
 rw [IntKind.wrap_u64, Int.emod_eq_of_lt h.1 (by omega)] at h1
 exact h1
theorem pu_mul_u (hx : ev l x = some (.int .u64 p)) (hy : ev l y = some (.int .u64 q)) (h : 0 ≤ p * q ∧ p * q ≤ 18446744073709551615) : Pu P C n l (.binOp .mul t x y t') ty (.int .u64 (p * q)) := by
 have h1 := pu_mul_w (P := P) (C := C) (n := n) (ty := ty) (t := t) (t' := t') hx hy
 rw [IntKind.wrap_u64, Int.emod_eq_of_lt h.1 (by omega)] at h1
 exact h1
theorem pu_cap {e : TypeId} (hx : ev l x = some (.slice A m c)) (ht : P.underlying t = some (.slice e)) : Pu P C n l (.call { callee := .builtin .cap, args := #[x], argTypes := #[t] }) ty (.int .i64 c) := by
 unfold Pu
 intro a _ _ _ _ W hs _
 simp only [execOp, resolve, List.map_toArray, List.map_cons, List.map_nil, hs.ev hx]
 simp [invoke, builtin, Builtin.cap_, run_underlying ht]
 rfl
end
def rows {X : Type} (C : X → List Value) (ss : List X) : List Value := ss.flatMap C
section
variable {X : Type} {C : X → List Value} {sz : Nat}
theorem rows_len (hC : ∀ s, (C s).length = sz) : ∀ (ss : List X), (rows C ss).length = ss.length * sz
 | [] => by simp [rows]
 | s :: r => by
  have ih := rows_len hC r
  unfold rows at ih ⊢
  rw [List.flatMap_cons, List.length_append, hC, ih, List.length_cons, Nat.succ_mul]; omega
theorem rows_cons (s : X) (r : List X) : rows C (s :: r) = C s ++ rows C r := rfl
theorem rows_app (a b : List X) : rows C (a ++ b) = rows C a ++ rows C b := by simp [rows]
theorem rows_one (s : X) : rows C [s] = C s := by simp [rows]
theorem rows_take (hC : ∀ s, (C s).length = sz) : ∀ (ss : List X) (i : Nat), (rows C ss).take (i * sz) = rows C (ss.take i)
 | [], i => by simp [rows]
 | s :: r, 0 => by simp [rows]
 | s :: r, i + 1 => by
  rw [rows_cons, List.take_succ_cons, rows_cons, Nat.succ_mul, Nat.add_comm, List.take_append, hC, Nat.add_sub_cancel_left, rows_take hC r i, List.take_of_length_le (by rw [hC]; omega)]
theorem rows_drop (hC : ∀ s, (C s).length = sz) : ∀ (ss : List X) (i : Nat), (rows C ss).drop (i * sz) = rows C (ss.drop i)
 | [], i => by simp [rows]
 | s :: r, 0 => by simp [rows]
 | s :: r, i + 1 => by
  rw [rows_cons, List.drop_succ_cons, Nat.succ_mul, Nat.add_comm, List.drop_append, hC, Nat.add_sub_cancel_left, rows_drop hC r i, List.drop_of_length_le (by rw [hC]; omega)]
  rfl
theorem rows_mid (hC : ∀ s, (C s).length = sz) {ss : List X} {i : Nat} {s : X} (hs : ss[i]? = some s) : Mid (rows C ss) (i * sz) (C s) := by
 obtain ⟨hl, rfl⟩ := List.getElem?_eq_some_iff.1 hs
 have h : ss = ss.take i ++ ss[i] :: ss.drop (i + 1) := by rw [← List.drop_eq_getElem_cons hl, List.take_append_drop]
 have h2 : rows C ss = rows C (ss.take i) ++ C ss[i] ++ rows C (ss.drop (i + 1)) := by
  conv => lhs; rw [h]
  rw [rows_app, rows_cons, List.append_assoc]
 rw [h2]; exact Mid.of_append (by rw [rows_len hC, List.length_take, Nat.min_eq_left (Nat.le_of_lt hl)])
theorem rows_one_cell (hC : ∀ s, ∀ v ∈ C s, v.oneCell' = true) (ss : List X) : ∀ v ∈ rows C ss, v.oneCell' = true := by
 intro v hv
 unfold rows at hv
 obtain ⟨s, _, h⟩ := List.mem_flatMap.1 hv
 exact hC s v h
end
theorem vw_form {L : List Fa} {size n : Nat} {A : Option Addr} {xs : List Value} (hr : Vw L (fun w => Reads w size A n xs)) (hn : 0 < n) : ∀ w, Sep w L → ∃ ad, A = some ad := fun w hw => by
 obtain ⟨ad, h, _⟩ := (hr w hw).2 hn
 exact ⟨ad, h⟩
theorem vw_cells {L : List Fa} {size n : Nat} {ad : Addr} {xs : List Value} (hr : Vw L (fun w => Reads w size (some ad) n xs)) (hn : 0 < n) : ∀ w, Sep w L → ∀ j v, xs[j]? = some v → w.cell? (ad.add j) = some v := fun w hw => by
 obtain ⟨ad', h, h2⟩ := (hr w hw).2 hn
 cases h
 exact h2
theorem own_at {w : World} {L : List Fa} {e : TypeId} {size n c : Nat} {A : Option Addr} {xs : List Value} (hw : Sep w L) (h : At (own e size A n c xs) L) : w.ownsRow 0 e size (.slice A n c) n xs := by
 have := hw.at h
 unfold own at this
 exact this
theorem blk_at {w : World} {L : List Fa} {g : Nat} {t : TypeId} {cs : List Value} (hw : Sep w L) (h : At (blk g t cs) L) : Blk w g t cs.toArray := by
 have := hw.at h
 unfold blk at this
 exact this
theorem run_copy_rows {P : Program} (w : World) (dT sT ty elem : TypeId) (g o dLen dCap : Nat) (a : Addr) (sLen sCap size : Nat) (cur : Array Value) (t : TypeId) (cs : List Value)
  (hu : P.underlying dT = some (.slice elem)) (hs : szOf P elem = some size)
  (hg : w.heap[g]? = some (.cells cur t (0, 0))) (hn : cs.length = Nat.min sLen dLen * size)
  (hsrc : ∀ j v, cs[j]? = some v → w.cell? (a.add j) = some v) (hfit : o + cs.length ≤ cur.size) (h1 : ∀ v ∈ cs, v.oneCell' = true) :
  (Builtin.copy_ #[dT, sT] ty #[.slice (some ⟨g, o, none⟩) dLen dCap, .slice (some a) sLen sCap]).run P w =
   .ok (goInt (Nat.min sLen dLen)) (w.setRow g (cur.toList.take o ++ cs ++ cur.toList.drop (o + cs.length)).toArray) := by
 have hl := run_loadCells_list (P := P) w a cs hsrc
 have hst := run_storeCells_at P g o t cs 0 cur w hg (by simpa using hfit) h1
 have hsz := run_size (P := P) hs
 simp [Builtin.copy_, run_underlying hu, Builtin.lenOf, Builtin.firstCells, hsz, ← hn, hl, hst]
section
variable {P : Program} {ops : Array Oper} {Q : Exit → Act → World → Prop} {n : Nat} {l : Env} {L L' : List Fa} {rest : List Oper} {d : Tmp} {dst : Option Tmp} {ty t t' e : TypeId} {pos : String} {after : Array Edge} {x y : Operand} {g o c dLen dCap sLen sCap size k kk m bytes : Nat} {A B : Option Addr} {a : Addr} {xs cs : List Value} {z : Value}
theorem setRow_size (w : World) (g : Nat) (cs : Array Value) : (w.setRow g cs).heap.size = w.heap.size := by simp [World.setRow]
theorem setRow_fr (w : World) (g : Nat) (cs : Array Value) : Fr (fun k => k = g) w (w.setRow g cs) := by
 exact ⟨rfl, rfl, rfl, Nat.le_of_eq (setRow_size w g cs).symm, fun k _ hn => setRow_other w g k cs hn⟩
theorem sep_copy {w : World} (hw : Sep w L) (hp : Pick (own e size (some ⟨g, 0, none⟩) k c xs) L L') (hsz : szOf P e = some size) (ht : P.underlying t = some (.slice e)) (hk : min sLen dLen = kk) (hn : cs.length = kk * size) (hr : ∀ w, Sep w L → ∀ j v, cs[j]? = some v → w.cell? (a.add j) = some v) (hfit : o + cs.length ≤ k * size) (h1 : ∀ v ∈ cs, v.oneCell' = true) :
  ∃ w', (Builtin.copy_ #[t, t'] ty #[.slice (some ⟨g, o, none⟩) dLen dCap, .slice (some a) sLen sCap]).run P w = .ok (goInt kk) w' ∧ Sep w' (own e size (some ⟨g, 0, none⟩) k c (xs.take o ++ cs ++ xs.drop (o + cs.length)) :: L') := by
 subst hk
 have h2 := hw.pick hp
 have hO : w.ownsRow 0 e size (.slice (some ⟨g, 0, none⟩) k c) k xs := by
  have := h2.hd
  unfold own at this
  exact this
 obtain ⟨hxl, h⟩ := hO
 rcases h with ⟨h, _⟩ | ⟨g', cap, cur, hv, hb, hh, hkc, hcm, hcs, htk⟩
 ·cases h
 injection hv with hA hk hc
 injection hA with hA
 injection hA with hg
 subst hg hc
 have hks : k * size ≤ c * size := Nat.mul_le_mul_right _ hkc
 refine ⟨_, run_copy_rows w t t' ty e g o dLen dCap a sLen sCap size cur e cs ht hsz hh hn (hr w hw) (by omega) h1, ?_⟩
 refine h2.step (setRow_fr w g _) (fun j _ e => by unfold own; exact congrArg some e.symm) ?_ (fun j hj => .inl (by unfold own at hj ⊢; exact hj))
 have hxc : xs.length ≤ cur.toList.length := by rw [← htk, List.length_take]; omega
 have hre : w.setRow g (cur.toList.take o ++ cs ++ cur.toList.drop (o + cs.length)).toArray = w.setRow g (cur.toList.take o ++ cs ++ cur.toList.drop (o + cs.length)).toArray := rfl
 have hP : (w.setRow g (cur.toList.take o ++ cs ++ cur.toList.drop (o + cs.length)).toArray).ownsRow 0 e size (.slice (some ⟨g, 0, none⟩) k c) k (xs.take o ++ cs ++ xs.drop (o + cs.length)) := by
  refine ⟨by simp; omega, .inr ⟨g, c, _, rfl, Nat.zero_le _, setRow_heap w g cur _ e (0, 0) hh, hkc, hcm, by simp; omega, ?_⟩⟩
  have e1 : (cur.toList.take o) = xs.take o := by rw [← htk, List.take_take, Nat.min_eq_left (by omega)]
  have e2 : xs.drop (o + cs.length) = (cur.toList.drop (o + cs.length)).take (k * size - (o + cs.length)) := by rw [← htk, List.drop_take]
  rw [List.toList_toArray, e2, ← e1, List.take_append, List.take_of_length_le (by simp; omega)]
  congr 1
  simp
  congr 1
  omega
 unfold own
 exact hP
theorem sl_copy0 (hx : ev l x = some (.slice (some ⟨g, o, none⟩) dLen dCap)) (hp : Pick (own e size (some ⟨g, 0, none⟩) k c xs) L L') (hy : ev l y = some (.slice (some a) sLen sCap)) (hsz : szOf P e = some size) (ht : P.underlying t = some (.slice e)) (hk : min sLen dLen = kk) (hn : cs.length = kk * size)
  (hr : ∀ w, Sep w L → ∀ j v, cs[j]? = some v → w.cell? (a.add j) = some v) (hfit : o + cs.length ≤ k * size) (h1 : ∀ v ∈ cs, v.oneCell' = true) (hd : (match dst with | some d => Nat.blt d n | none => true) = true)
  (h : SL P ops Q rest n (match dst with | some d => (d, goInt kk) :: l | none => l) (own e size (some ⟨g, 0, none⟩) k c (xs.take o ++ cs ++ xs.drop (o + cs.length)) :: L')) :
  SL P ops Q (⟨dst, .call { callee := .builtin .copy, args := #[x, y], argTypes := #[t, t'] }, ty, pos, after, none⟩ :: rest) n l L := sl_of fun w hw => WL.mk fun a' hs => by
 obtain ⟨w', hr', hw'⟩ := sep_copy (P := P) (ty := ty) (t' := t') (dCap := dCap) (sCap := sCap) hw hp hsz ht hk hn hr hfit h1
 refine wpList_plain rfl fun K hK => ?_
 unfold Oper.wp
 simp only [execOp, resolve, List.map_toArray, List.map_cons, List.map_nil, hs.ev hx, hs.ev hy]
 simp only [invoke, builtin, Sem.run_bind, Sem.run_pure, Result.andThen_ok, hr']
 cases dst with
 | none => exact hK _ _ ((h.to hw').get hs)
 | some d => exact hK _ _ ((h.to hw').get (hs.put hd _))
theorem sd_copy {S : World → Prop} {need : Nat → Bool} {fuel : Nat} {listed : Array Bool} (j : Nat) (hrd : Region.ready .any ops listed = [j]) (ho : ops[j]? = some ⟨some d, .call { callee := .builtin .copy, args := #[x, y], argTypes := #[t, t'] }, ty, pos, after, none⟩)
  (hx : ev l x = some (.slice (some ⟨g, o, none⟩) dLen dCap)) (hp : Pick (own e size (some ⟨g, 0, none⟩) k c xs) L L') (hy : ev l y = some (.slice (some a) sLen sCap)) (hsz : szOf P e = some size) (ht : P.underlying t = some (.slice e)) (hk : min sLen dLen = kk) (hn : cs.length = kk * size)
  (hr : ∀ w, Sep w L → ∀ j v, cs[j]? = some v → w.cell? (a.add j) = some v) (hfit : o + cs.length ≤ k * size) (h1 : ∀ v ∈ cs, v.oneCell' = true) (hd : Nat.blt d n = true) (hS : ∀ w, Sep w (own e size (some ⟨g, 0, none⟩) k c (xs.take o ++ cs ++ xs.drop (o + cs.length)) :: L') → S w)
  (h : SD P ops Q S need fuel (listed.setIfInBounds j true) n ((d, goInt kk) :: l) (own e size (some ⟨g, 0, none⟩) k c (xs.take o ++ cs ++ xs.drop (o + cs.length)) :: L')) : SD P ops Q S need (fuel + 1) listed n l L := sd_of fun w hw => by
 obtain ⟨w', hr', hw'⟩ := sep_copy (P := P) (ty := ty) (t' := t') (dCap := dCap) (sCap := sCap) hw hp hsz ht hk hn hr hfit h1
 refine wd_run j hrd ho (v := goInt kk) (w' := w') ?_ hd (fun _ => hS w' hw') (h.to hw')
 unfold Ru
 intro a' _ _ _ _ hs
 simp only [execOp, resolve, List.map_toArray, List.map_cons, List.map_nil, hs.ev hx, hs.ev hy]
 simp only [invoke, builtin, Sem.run_bind, Sem.run_pure, Result.andThen_ok, hr']
theorem own_cells (hp : At (own e size (some ⟨g, 0, none⟩) k c xs) L) (hm : Mid xs o cs) (hk : 0 < k) : ∀ w, Sep w L → ∀ j v, cs[j]? = some v → w.cell? ((⟨g, o, none⟩ : Addr).add j) = some v := fun w hw j v hj => by
 have hO : w.ownsRow 0 e size (.slice (some ⟨g, 0, none⟩) k c) k xs := by
  have := hw.at hp
  unfold own at this
  exact this
 obtain ⟨ad, h1, h2⟩ := (Reads.of_own hO).2 hk
 cases h1
 have h3 := h2 _ v (hm j v hj)
 rw [add_none] at h3 ⊢
 rwa [Nat.zero_add] at h3
theorem cutA_some {g c i sz : Nat} (h : c ≠ i) : cutA (some ⟨g, 0, none⟩) c i sz = some ⟨g, i * sz, none⟩ := by
 unfold cutA
 rw [if_neg h, Option.map_some, add_none, Nat.zero_add]
theorem sep_more {w : World} (hw : Sep w L) (hp : Pick (own e size A k c xs) L L') (hc : k + m ≤ c) : ∃ ext : List Value, ext.length = m * size ∧ Sep w (own e size A (k + m) c (xs ++ ext) :: L') := by
 have h2 := hw.pick hp
 have hO : w.ownsRow 0 e size (.slice A k c) k xs := by
  have := h2.hd
  unfold own at this
  exact this
 obtain ⟨hxl, h⟩ := hO
 rcases h with ⟨h, h0⟩ | ⟨g', cap, cur, hv, hb, hh, hkc, hcm, hcs, htk⟩
 ·injection h with h3 h4 h5
  subst h3 h4 h5
  obtain rfl : m = 0 := by omega
  exact ⟨[], by simp, by simpa using h2⟩
 injection hv with hA hk hc'
 subst hA hc'
 have hkm : (k + m) * size ≤ c * size := Nat.mul_le_mul_right _ hc
 rw [Nat.add_mul] at hkm
 refine ⟨(cur.toList.drop (k * size)).take (m * size), by simp; omega, ?_⟩
 refine h2.step (Fr.refl Nil w) (fun _ _ e => e.elim) ?_ (fun j hj => .inl (by unfold own at hj ⊢; exact hj))
 have hP : w.ownsRow 0 e size (.slice (some ⟨g', 0, none⟩) (k + m) c) (k + m) (xs ++ (cur.toList.drop (k * size)).take (m * size)) := by
  refine ⟨by rw [List.length_append, hxl, List.length_take, List.length_drop, Nat.add_mul]; simp; omega, .inr ⟨g', c, cur, rfl, hb, hh, hc, hcm, hcs, ?_⟩⟩
  rw [Nat.add_mul, List.take_add, htk]
 unfold own
 exact hP
theorem sep_less {w : World} (hw : Sep w L) (hp : Pick (own e size A k c xs) L L') (hm : m ≤ k) : Sep w (own e size A m c (xs.take (m * size)) :: L') := by
 have h2 := hw.pick hp
 have hO : w.ownsRow 0 e size (.slice A k c) k xs := by
  have := h2.hd
  unfold own at this
  exact this
 obtain ⟨hxl, h⟩ := hO
 have hmk : m * size ≤ k * size := Nat.mul_le_mul_right _ hm
 refine h2.step (Fr.refl Nil w) (fun _ _ e => e.elim) ?_ (fun j hj => .inl (by unfold own at hj ⊢; exact hj))
 have hP : w.ownsRow 0 e size (.slice A m c) m (xs.take (m * size)) := by
  rcases h with ⟨h, h0⟩ | ⟨g', cap, cur, hv, hb, hh, hkc, hcm, hcs, htk⟩
  ·injection h with h3 h4 h5
   subst h3 h4 h5
   obtain rfl : m = 0 := by omega
   exact ⟨by simp, .inl ⟨rfl, rfl⟩⟩
  ·injection hv with hA hk hc'
   subst hA hc'
   exact ⟨by rw [List.length_take]; omega, .inr ⟨g', c, cur, rfl, hb, hh, by omega, hcm, hcs, by rw [← htk, List.take_take, Nat.min_eq_left (by omega)]⟩⟩
 unfold own
 exact hP
theorem sl_more (hp : Pick (own e size A k c xs) L L') (hc : k + m ≤ c) (h : ∀ ext : List Value, ext.length = m * size → SL P ops Q rest n l (own e size A (k + m) c (xs ++ ext) :: L')) : SL P ops Q rest n l L := sl_of fun w hw => by
 obtain ⟨ext, h1, h2⟩ := sep_more hw hp hc
 exact (h ext h1).to h2
theorem sl_build {parts : List (Nat × Operand)} {ps : List (Nat × Value)} {cells : List Value} (hp : evp l parts = some ps) (hrun : ∀ W, (Instr.buildSlice t k ps.toArray).run P W = .ok (.slice (some ⟨W.heap.size, 0, none⟩) k k) (W.alloc (.cells cells.toArray e))) (hsz : cells.length = k * size) (hk : k ≤ maxLen) (hd : Nat.blt d n = true)
  (h : ∀ g, SL P ops Q rest n ((d, .slice (some ⟨g, 0, none⟩) k k) :: l) (own e size (some ⟨g, 0, none⟩) k k cells :: L)) : SL P ops Q (⟨some d, .buildSlice t k parts.toArray, ty, pos, after, none⟩ :: rest) n l L := sl_of fun w hw =>
 wl_new (ru_buildSlice hp hrun) hd fun w' hF hS hB => (h w.heap.size).to (hw.new hF (by
   have hP : w'.ownsRow 0 e size (.slice (some ⟨w.heap.size, 0, none⟩) k k) k cells := ⟨hsz, .inr ⟨_, _, _, rfl, Nat.zero_le _, hB, Nat.le_refl _, hk, by simpa using hsz, by rw [List.toList_toArray, ← hsz, List.take_length]⟩⟩
   unfold own
   exact hP) (fun j hj => by
   unfold own at hj
   have hj' : some w.heap.size = some j := hj
   exact Nat.le_of_eq (Option.some.inj hj')))
theorem sd_build {S : World → Prop} {need : Nat → Bool} {fuel : Nat} {listed : Array Bool} (j : Nat) {parts : List (Nat × Operand)} {ps : List (Nat × Value)} {cells : List Value} (hrd : Region.ready .any ops listed = [j]) (ho : ops[j]? = some ⟨some d, .buildSlice t k parts.toArray, ty, pos, after, none⟩)
  (hp : evp l parts = some ps) (hrun : ∀ W, (Instr.buildSlice t k ps.toArray).run P W = .ok (.slice (some ⟨W.heap.size, 0, none⟩) k k) (W.alloc (.cells cells.toArray e))) (hsz : cells.length = k * size) (hk : k ≤ maxLen) (hd : Nat.blt d n = true)
  (hS : need j = true → ∀ g w, Sep w (own e size (some ⟨g, 0, none⟩) k k cells :: L) → S w)
  (h : ∀ g, SD P ops Q S need fuel (listed.setIfInBounds j true) n ((d, .slice (some ⟨g, 0, none⟩) k k) :: l) (own e size (some ⟨g, 0, none⟩) k k cells :: L)) : SD P ops Q S need (fuel + 1) listed n l L := sd_of fun w hw =>
 wd_new j hrd ho (ru_buildSlice hp hrun) hd fun w' hF hsz' hB => by
  have h3 : Sep w' (own e size (some ⟨w.heap.size, 0, none⟩) k k cells :: L) := hw.new hF (by
    have hP : w'.ownsRow 0 e size (.slice (some ⟨w.heap.size, 0, none⟩) k k) k cells := ⟨hsz, .inr ⟨_, _, _, rfl, Nat.zero_le _, hB, Nat.le_refl _, hk, by simpa using hsz, by rw [List.toList_toArray, ← hsz, List.take_length]⟩⟩
    unfold own
    exact hP) (fun j hj => by
    unfold own at hj
    have hj' : some w.heap.size = some j := hj
    exact Nat.le_of_eq (Option.some.inj hj'))
  exact ⟨fun e => hS e _ w' h3, (h w.heap.size).to h3⟩
theorem sa_build {S : World → Prop} {need : Nat → Bool} {fuel : Nat} {listed : Array Bool} (j : Nat) {parts : List (Nat × Operand)} {ps : List (Nat × Value)} {cells : List Value} (ho : ops[j]? = some ⟨some d, .buildSlice t k parts.toArray, ty, pos, after, none⟩)
  (hp : evp l parts = some ps) (hrun : ∀ W, (Instr.buildSlice t k ps.toArray).run P W = .ok (.slice (some ⟨W.heap.size, 0, none⟩) k k) (W.alloc (.cells cells.toArray e))) (hsz : cells.length = k * size) (hk : k ≤ maxLen) (hd : Nat.blt d n = true)
  (hS : need j = true → ∀ g w, Sep w (own e size (some ⟨g, 0, none⟩) k k cells :: L) → S w)
  (h : ∀ g, SD P ops Q S need fuel (listed.setIfInBounds j true) n ((d, .slice (some ⟨g, 0, none⟩) k k) :: l) (own e size (some ⟨g, 0, none⟩) k k cells :: L)) : SA P ops Q S need fuel listed n l L j := sa_of fun w hw =>
 wa_new j ho (ru_buildSlice hp hrun) hd fun w' hF hsz' hB => by
  have h3 : Sep w' (own e size (some ⟨w.heap.size, 0, none⟩) k k cells :: L) := hw.new hF (by
    have hP : w'.ownsRow 0 e size (.slice (some ⟨w.heap.size, 0, none⟩) k k) k cells := ⟨hsz, .inr ⟨_, _, _, rfl, Nat.zero_le _, hB, Nat.le_refl _, hk, by simpa using hsz, by rw [List.toList_toArray, ← hsz, List.take_length]⟩⟩
    unfold own
    exact hP) (fun j hj => by
    unfold own at hj
    have hj' : some w.heap.size = some j := hj
    exact Nat.le_of_eq (Option.some.inj hj'))
  exact ⟨fun e => hS e _ w' h3, (h w.heap.size).to h3⟩
theorem sl_build0 (ht : P.underlying t = some (.slice e)) (hrun : ∀ W, (Instr.buildSlice t 0 #[]).run P W = .ok (.slice (some ⟨W.heap.size, 0, none⟩) 0 0) (W.alloc (.cells #[] e))) (hd : Nat.blt d n = true)
  (h : ∀ g, SL P ops Q rest n ((d, .slice (some ⟨g, 0, none⟩) 0 0) :: l) (own e size (some ⟨g, 0, none⟩) 0 0 [] :: L)) : SL P ops Q (⟨some d, .buildSlice t 0 #[], ty, pos, after, none⟩ :: rest) n l L :=
 sl_build (parts := []) (ps := []) (cells := []) rfl hrun (by simp) (by simp [maxLen]) hd h
theorem sl_make {i : TypeInfo} {kl kc : IntKind} {lo : Operand} (hx : ev l x = some (.int kl k)) (hy : ev l y = some (.int kc c)) (ht : P.underlying t = some (.slice e)) (hi : (P.info? e).map (fun i => (i.zero, i.size, i.bytes)) = some (some z, size, bytes)) (hkc : k ≤ c) (hby : bytes * c ≤ 281474976710656) (hcm : c ≤ maxLen) (hd : Nat.blt d n = true)
  (h : ∀ g, SL P ops Q rest n ((d, .slice (some ⟨g, 0, none⟩) k c) :: l) (own e size (some ⟨g, 0, none⟩) k c ((madeCells z.cells (c * size)).toList.take (k * size)) :: L)) : SL P ops Q (⟨some d, .makeSlice t x y, ty, pos, after, none⟩ :: rest) n l L := sl_of fun w hw => by
 obtain ⟨i, hi0, hz0, hz1, hz2⟩ := info_parts hi
 subst hz1 hz2
 have hb' : (i.bytes : Int) * (c : Int) ≤ 281474976710656 := by
  have h : ((i.bytes * c : Nat) : Int) ≤ 281474976710656 := by omega
  rwa [Int.natCast_mul] at h
 have h63 : (c : Int) ≤ 9223372036854775807 := by
  have h := hcm
  simp [maxLen] at h
  omega
 refine wl_new (v := .slice (some ⟨w.heap.size, 0, none⟩) k c) (cs := madeCells z.cells (c * i.size)) (t := e) (by
   unfold Ru
   intro a _ _ _ _ hs
   have hr := run_make (P := P) w t e i z ht hi0 hz0 kl kc k c (by omega) (by omega) hb' h63
   simp only [Int.toNat_natCast] at hr
   simp only [execOp, hs.ev hx, hs.ev hy]
   simp [hr]) hd fun w' hF hS hB => (h w.heap.size).to (hw.new hF (by
   have hP : w'.ownsRow 0 e i.size (.slice (some ⟨w.heap.size, 0, none⟩) k c) k ((madeCells z.cells (c * i.size)).toList.take (k * i.size)) := ⟨by
     have h1 := Nat.mul_le_mul_right i.size hkc
     rw [List.length_take, Array.length_toList, size_madeCells, Nat.min_eq_left h1], .inr ⟨_, _, _, rfl, Nat.zero_le _, hB, hkc, hcm, size_madeCells _ _, rfl⟩⟩
   unfold own
   exact hP) (fun j hj => by
   unfold own at hj
   have hj' : some w.heap.size = some j := hj
   exact Nat.le_of_eq (Option.some.inj hj')))
theorem se_ret_ct {fn : Func} {α : Type} {φ : α → Prop} {vv : α → Value} {H : α → List Fa} {tp u : Nat} {v2 : Value} {td : TypeDesc} {csx : List Value} (x : α) (hφ : φ x) (hr : fn.results = #[.cell tp ty, .tmp u]) (hv : lk l tp = some (.pointer (some ⟨g, 0, none⟩))) (hb : At (blk g t' csx) L) (hu : P.underlying ty = some td) (hd' : (match td with | .struct _ | .array _ _ => true | _ => false) = true) (hi : szOf P ty = some csx.length)
  (hw2 : lk l u = some v2) (he : vv x = .tuple #[.agg csx.toArray, v2]) (hs : Sub L (H x)) : SE (bodyPost P fn (Ret φ vv H)) .ret n l L := se_of fun w hw => WE.mk fun a hs' => by
 refine bodyPost_ret (v := vv x) ?_ hs'.df ⟨x, hφ, rfl, hw.sub hs⟩
 rw [results_cell_tmp hr, hs'.get hv, hs'.get hw2, he]
 have hB : Blk w g t' csx.toArray := by
  have := hw.at hb
  unfold blk at this
  exact this
 have hl := run_loadVar_at (P := P) w ⟨g, 0, none⟩ ty csx td (fun j v hj => by
   rw [add_none, Nat.zero_add, hB.cell]
   simpa using hj) hu hd' (by rw [← szOf_eq]; exact hi)
 simp [asAddr, hl]
end
section
variable {P : Program} {ops : Array Oper} {Q : Exit → Act → World → Prop} {n : Nat} {l : Env} {L L' : List Fa} {rest : List Oper} {d : Tmp} {ty t t' e : TypeId} {pos : String} {after : Array Edge} {x y : Operand} {c size k m bytes : Nat} {A : Option Addr} {xs : List Value} {z : Value}
def zeros (z : Value) (m : Nat) : List Value := (Builtin.zeroCells z.cells m).toList
theorem zeros_len (z : Value) (m : Nat) : (zeros z m).length = m * z.cells.size := by unfold zeros; rw [Array.length_toList, size_zeroCells]
theorem sl_app_zeros {kn : IntKind} (hx : ev l x = some (.slice A k c)) (hy : ev l y = some (.int .i64 (m : Int))) (hr : Vw L (fun w => Reads w size A k xs)) (ht : P.underlying t = some (.slice e)) (ht' : P.underlying t' = some (.int kn)) (hi : (P.info? e).map (fun i => (i.zero, i.size, i.bytes)) = some (some z, size, bytes)) (hzs : z.cells.size = size) (hsz : 0 < size)
  (hm : 0 < m) (hg : c < k + m) (hd : Nat.blt d n = true) (h63 : k + m ≤ maxLen) (hby : (k + m) * bytes ≤ 140737488355328)
  (h : ∀ g c', SL P ops Q rest n ((d, .slice (some ⟨g, 0, none⟩) (k + m) c') :: l) (own e size (some ⟨g, 0, none⟩) (k + m) c' (xs ++ zeros z m) :: L)) : SL P ops Q (⟨some d, .call { callee := .builtin .append, args := #[x, y], argTypes := #[t, t'] }, ty, pos, after, none⟩ :: rest) n l L := sl_of fun w hw => by
 obtain ⟨i, hi0, hz0, hz1, hz2⟩ := info_parts hi
 subst hz1 hz2
 have hw' := hw.nil ((Fr.refl Nil w).drew)
 have hrd := hr _ hw'
 have hcells : (Builtin.firstCells i.size k (.slice A k c)).run P w.drew = .ok xs.toArray w.drew := by
  cases A with
  | none =>
   have hk : k = 0 := by
    rcases Nat.eq_zero_or_pos k with h | h
    ·exact h
    ·obtain ⟨_, h2, _⟩ := hrd.2 h
     cases h2
   subst hk
   have : xs = [] := List.eq_nil_of_length_eq_zero (by simpa using hrd.1)
   subst this
   rfl
  | some ad =>
   refine run_firstCells_some (P := P) w.drew i.size k ad k c xs hrd.1 (fun j u hu => ?_)
   rcases Nat.eq_zero_or_pos k with h | h
   ·subst h
    have : xs = [] := List.eq_nil_of_length_eq_zero (by simpa using hrd.1)
    subst this
    simp at hu
   ·obtain ⟨ad', h1, h2⟩ := hrd.2 h
    cases h1
    exact h2 j u hu
 have hle := nextslicecap_le hg
 have hmx : (k + m) * i.bytes ≤ 140737488355328 := hby
 have h63' : ((k + m : Nat) : Int) ≤ 9223372036854775807 := by
  have h := h63
  simp [maxLen] at h
  omega
 have hfit : Builtin.nextslicecap (k + m) c * i.bytes ≤ 281474976710656 := by
  have := Nat.mul_le_mul_right i.bytes hle
  rw [Nat.mul_assoc] at this
  omega
 have h48 : m * i.bytes ≤ 281474976710656 := by
  have := Nat.mul_le_mul_right i.bytes (Nat.le_add_left m k)
  omega
 have hrun := Lib.run_append_grow_zeros (P := P) w t t' ty e i z .i64 kn ht ht' hi0 hz0 A k c xs hcells m hm hsz hg h63' h48 hfit
 have hF : Fr Nil w (w.drew.alloc (.cells (xs.toArray ++ Builtin.zeroCells z.cells m ++ Builtin.zeroCells z.cells (grownCap w (k + m) c e - (k + m))) e)) := ((Fr.refl Nil w).drew).alloc _
 refine wl_run (w' := w.drew.alloc (.cells (xs.toArray ++ Builtin.zeroCells z.cells m ++ Builtin.zeroCells z.cells (grownCap w (k + m) c e - (k + m))) e)) (v := .slice (some ⟨w.heap.size, 0, none⟩) (k + m) (grownCap w (k + m) c e)) (by
   unfold Ru
   intro a _ _ _ _ hs
   simp only [execOp, resolve, List.map_toArray, List.map_cons, List.map_nil, hs.ev hx, hs.ev hy]
   simp only [invoke, builtin, Sem.run_bind, Sem.run_pure, Result.andThen_ok, hrun]) hd ((h w.heap.size (grownCap w (k + m) c e)).to (hw.new hF ?_ (fun j hj => ?_)))
 ·have hge := grownCap_ge w (k + m) c e
  have hP : World.ownsRow (w.drew.alloc (.cells (xs.toArray ++ Builtin.zeroCells z.cells m ++ Builtin.zeroCells z.cells (grownCap w (k + m) c e - (k + m))) e)) 0 e i.size (.slice (some ⟨w.heap.size, 0, none⟩) (k + m) (grownCap w (k + m) c e)) (k + m) (xs ++ zeros z m) := by
   have hxl := hrd.1
   have hzl := zeros_len z m
   rw [hzs] at hzl
   refine ⟨by rw [List.length_append, hxl, hzl, Nat.add_mul], .inr ⟨_, _, _, rfl, Nat.zero_le _, Blk.new w.drew e _, hge, grownCap_le_maxLen w (k + m) c e h63, ?_, ?_⟩⟩
   ·simp only [Array.size_append, size_zeroCells, hzs, List.size_toArray, hxl]
    rw [← Nat.add_mul, ← Nat.add_mul]
    congr 1
    omega
   ·simp only [Array.toList_append]
    have hl : (k + m) * i.size = (xs ++ zeros z m).length := by rw [List.length_append, hxl, hzl, Nat.add_mul]
    rw [hl]; exact List.take_left' (by simp [zeros])
  unfold own
  exact hP
 ·unfold own at hj
  have hj' : some w.heap.size = some j := hj
  exact Nat.le_of_eq (Option.some.inj hj')
theorem run_overlaps_own {w : World} {g h o la ca lb cb ka kb kca kcb : Nat} {tR : TypeId} {xs ys : List Value} (hw : Sep w L) (hp : Pick (own e size (some ⟨g, 0, none⟩) ka kca xs) L L') (hq : At (own e size (some ⟨h, 0, none⟩) kb kcb ys) L') (hkb : 0 < kb) (hsz : 0 < size)
  (ht : P.underlying t = some (.slice e)) (hs : szOf P e = some size) : (Extern.SlicesOverlaps.overlaps #[t, t] #[tR] #[.slice (some ⟨g, 0, none⟩) la ca, .slice (some ⟨h, o, none⟩) lb cb]).run P w = .ok (.bool false) w := by
 have h1 := hw.pick hp
 have hA : w.ownsRow 0 e size (.slice (some ⟨g, 0, none⟩) ka kca) ka xs := by
  have := h1.hd
  unfold own at this
  exact this
 have hB : w.ownsRow 0 e size (.slice (some ⟨h, 0, none⟩) kb kcb) kb ys := by
  have := h1.tl.at hq
  unfold own at this
  exact this
 have hne : g ≠ h := by
  rintro rfl
  have := h1.apart _ hq.mem g
  unfold own at this
  exact this rfl rfl
 rcases hA.2 with ⟨h0, _⟩ | ⟨g', cap, cur, hv, _, hh, _, _, hcs, _⟩
 ·cases h0
 rcases hB.2 with ⟨h0, _⟩ | ⟨h', cap', cur', hv', _, hh', hk', _, hcs', _⟩
 ·cases h0
 cases hv
 cases hv'
 refine Lib.run_overlaps_apart w t tR e ht size (run_size hs) ⟨g, 0, none⟩ ⟨h, o, none⟩ la ca lb cb hne e e cur.size cur'.size ?_ ?_ ?_ ?_ ?_
 ·simp [World.shape?, hh]
 ·simp [World.shape?, hh']
 ·rw [hcs']
  have : 0 < kcb * size := Nat.mul_pos (by omega) hsz
  omega
 ·exact Blk.frozen (t := e) hh 0
 ·exact Blk.frozen (t := e) hh _
end
theorem toN_ {p : Int} (h : 0 ≤ p) : p = ((p.toNat : Nat) : Int) := (Int.toNat_of_nonneg h).symm
section
variable {P : Program} {C : World → Prop} {n : Nat} {l : Env} {ty t t' : TypeId} {x y z : Operand} {v u : Value} {k k' : IntKind} {p q : Int} {A : Option Addr} {m c : Nat} {ad : Addr}
theorem pu_indexAddr_y {e : TypeId} {N sz g o : Nat} (hx : ev l x = some (.pointer (some ⟨g, o, none⟩))) (hy : ev l y = some (.int k p)) (ht : P.underlying t = some (.array N e)) (he : szOf P e = some sz) (h0 : 0 ≤ p) (h1 : p < N) :
  Pu P C n l (.indexAddr t x y) ty (.pointer (some ⟨g, o + p.toNat * sz, none⟩)) := by
 obtain ⟨j, rfl⟩ : ∃ j : Nat, p = j := ⟨p.toNat, by omega⟩
 rw [Int.toNat_natCast]; exact pu_indexAddr_a hx hy ht he (by omega)
def compl (k : IntKind) (p : Int) : Int := bits .xor k (if k.signed then -1 else k.max) p
theorem pu_com (hx : ev l x = some (.int k p)) : Pu P C n l (.unOp .xor t x) ty (.int k (compl k p)) := by
 unfold Pu
 intro a _ _ _ _ W hs _
 simp only [execOp, hs.ev hx]
 simp [go_sem, compl]
theorem pu_index_arr {e : TypeId} {N : Nat} {cs : List Value} (hx : ev l x = some (.agg cs.toArray)) (hy : ev l y = some (.int k p)) (ht : P.underlying t = some (.array N e)) (he : plainT P e = true) (h0 : 0 ≤ p) (h1 : p < N) (hn : nth cs p.toNat = some v) (hv : v.oneCell' = true) :
  Pu P C n l (.index t x y) ty v := by
 unfold Pu
 intro a _ _ _ _ W hs _
 obtain ⟨⟨d, hu, hagg⟩, i, hi, hsz⟩ := plainT_spec he
 rw [nth_eq] at hn
 simp only [execOp, hs.ev hx, hs.ev hy]
 simp [Instr.index, asIntOf, run_underlying ht, h0, h1, sizeOf, typeInfo, hi, hsz, part, hagg, hn]
theorem pu_slice_m {e : TypeId} {sz i j : Nat} (hx : ev l x = some (.slice A m c)) (hy : ev l y = some (.int k p)) (hz : ev l z = some (.int k' q)) (ht : P.underlying t = some (.slice e)) (he : szOf P e = some sz) (hp : p = (i : Int)) (hq : q = (j : Int)) (h1 : i ≤ j) (h2 : j ≤ c) :
  Pu P C n l (.slice t x none (some y) (some z)) ty (.slice A i j) := by
 subst hp hq
 unfold Pu
 intro a _ _ _ _ W hs _
 have hA : A.map (fun ad => ad.add 0) = A := by cases A <;> simp [Addr.add]
 simp only [execOp, Option.map, hs.ev hx, hs.ev hy, hs.ev hz]
 simp [Instr.sliceAt, Instr.slice, Instr.sliceBounds, Instr.sliceBound, asIntOf, run_underlying ht, run_size he, h1, h2, hA]
theorem pu_index_str {s : ByteArray} {b : UInt8} (hx : ev l x = some (.string s)) (hy : ev l y = some (.int k p)) (ht : P.underlying t = some .string) (h0 : 0 ≤ p) (hn : s[p.toNat]? = some b) :
  Pu P C n l (.index t x y) ty (.int .u8 b.toNat) := by
 unfold Pu
 intro a _ _ _ _ W hs _
 simp only [execOp, hs.ev hx, hs.ev hy]
 simp [Instr.index, asIntOf, run_underlying ht, h0, hn]
end
end
section
open Go.RowKit Go.MapKept
section
def IsK (d : TypeDesc) (v : Value) : Prop := IsKey d v ∨ (∃ e, d = .array 16 e) ∧ ∃ l : List Int, v = .agg (bytes l).toArray ∧ IsBytes l ∧ l.length = 16
theorem IsK.plain {d : TypeDesc} {k v : Value} (hk : IsKey d k) (h : IsK d v) : IsKey d v := by
 rcases h with h | ⟨⟨e, rfl⟩, _⟩
 ·exact h
 ·cases k <;> exact hk.elim
structure KLaw (P : Program) (kt : TypeId) (d : TypeDesc) (k : Value) : Prop where
 isK : IsK d k
 chk : ∀ em w, (Instr.checkKey em 10000 kt k).run P w = .ok () w
 find : ∀ (es : List MapEntry) (w : World), (∀ x ∈ es, IsK d x.key) → (∃ j e, (Instr.findKey kt k es).run P w = .ok (some (j, e.val)) w ∧ es[j]? = some e ∧ e.key = k) ∨ ((Instr.findKey kt k es).run P w = .ok none w ∧ ∀ x ∈ es, x.key ≠ k)
 stay : ∀ w, (Instr.keyThatStays k k).run P w = .ok k w
theorem KLaw.of {P : Program} {kt : TypeId} {d : TypeDesc} {k : Value} (hd : P.underlying kt = some d) (hk : IsKey d k) : KLaw P kt d k where
 isK := .inl hk
 chk := fun em w => run_checkKey hd hk em 9999
 find := fun es w h => by
  rcases findNow_spec hk es 0 (fun x hx => (h x hx).plain hk) with ⟨h1, h2⟩ | ⟨j, e, h1, h2, h3⟩
  ·exact .inr ⟨run_findKey hd h1, h2⟩
  ·exact .inl ⟨j, e, by simpa using run_findKey hd h1, h2, h3⟩
 stay := fun w => run_keyThatStays hk
def MapP (g : Nat) (d : TypeDesc) (es : List MapEntry) (ck : Nat) (w : World) : Prop := w.heap[g]? = some (.map es.toArray ck) ∧ Stamped es.toArray ck ∧ ∀ x ∈ es, IsK d x.key
theorem heap_lt {w : World} {g : Nat} {o : Obj} (h : w.heap[g]? = some o) : g < w.heap.size := (Array.getElem?_eq_some_iff.1 h).1
def mp (g : Nat) (d : TypeDesc) (es : List MapEntry) (ck : Nat) : Fa := ⟨MapP g d es ck, fun k => k = g, fun h e => by rw [e]; exact heap_lt h.1, fun h hF hn => ⟨(hF.block g (heap_lt h.1) (hn g rfl)).trans h.1, h.2⟩⟩
def ItrP (r g ck : Nat) (vs : List MapEntry) (w : World) : Prop := w.heap[r]? = some (.mapIter (some g) ck (vs.map (·.born)).toArray ck)
def itr (r g ck : Nat) (vs : List MapEntry) : Fa := ⟨ItrP r g ck vs, fun k => k = r, fun h e => by rw [e]; exact heap_lt h, fun h hF hn => (hF.block r (heap_lt h) (hn r rfl)).trans h⟩
theorem mp_P {g ck : Nat} {d : TypeDesc} {es : List MapEntry} {w : World} : (mp g d es ck).P w = MapP g d es ck w := rfl
theorem mp_F {g ck k : Nat} {d : TypeDesc} {es : List MapEntry} : (mp g d es ck).F k = (k = g) := rfl
theorem itr_P {r g ck : Nat} {vs : List MapEntry} {w : World} : (itr r g ck vs).P w = ItrP r g ck vs w := rfl
theorem itr_F {r g ck k : Nat} {vs : List MapEntry} : (itr r g ck vs).F k = (k = r) := rfl
attribute [irreducible] mp itr
def MGet (es : List MapEntry) (k v : Value) : Prop := ∃ e ∈ es, e.key = k ∧ e.val = v
def MNo (es : List MapEntry) (k : Value) : Prop := ∀ e ∈ es, e.key ≠ k
section
variable {P : Program} {w : World} {g ck : Nat} {d : TypeDesc} {es : List MapEntry} {k v z : Value} {t kt e : TypeId}
theorem pw_one {α β : Type} {f : α → β} : ∀ {l : List α}, l.Pairwise (fun x y => f x ≠ f y) → ∀ {a b : α}, a ∈ l → b ∈ l → f a = f b → a = b
 | c :: r, hp, a, b, ha, hb, he => by
  rw [List.pairwise_cons] at hp
  rcases List.mem_cons.1 ha with h1 | h1 <;> rcases List.mem_cons.1 hb with h2 | h2
  ·rw [h1, h2]
  ·subst h1; exact absurd he (hp.1 b h2)
  ·subst h2; exact absurd he.symm (hp.1 a h1)
  ·exact pw_one hp.2 h1 h2 he
theorem key_one (h : Stamped es.toArray ck) {a b : MapEntry} (ha : a ∈ es) (hb : b ∈ es) (hk : a.key = b.key) : a = b := by
 have h3 := ((stamped_iff _ _).1 h).2.2
 rw [List.toList_toArray] at h3
 exact pw_one (f := MapEntry.key) h3 ha hb hk
theorem born_one (h : Stamped es.toArray ck) {a b : MapEntry} (ha : a ∈ es) (hb : b ∈ es) (hk : a.born = b.born) : a = b := by
 have h2 : es.Pairwise (fun x y => x.born ≠ y.born) := by
  have := h.2.1
  rw [List.toList_toArray, List.Nodup, List.pairwise_map] at this
  exact this
 exact pw_one (f := MapEntry.born) h2 ha hb hk
theorem find_get (h : MapP g d es ck w) (hk : KLaw P kt d k) (hg : MGet es k v) (w' : World) : ∃ j e, (Instr.findKey kt k es).run P w' = .ok (some (j, v)) w' ∧ es[j]? = some e ∧ e.key = k ∧ e.val = v := by
 obtain ⟨e0, he0, hk0, hv0⟩ := hg
 rcases hk.find es w' h.2.2 with ⟨j, e, h1, h2, h3⟩ | ⟨_, h2⟩
 ·have : e = e0 := key_one h.2.1 (List.mem_of_getElem? h2) he0 (h3.trans hk0.symm)
  subst this; subst hv0; exact ⟨j, e, h1, h2, h3, rfl⟩
 ·exact absurd hk0 (h2 _ he0)
theorem find_no (h : MapP g d es ck w) (hk : KLaw P kt d k) (hg : MNo es k) (w' : World) : (Instr.findKey kt k es).run P w' = .ok none w' := by
 rcases hk.find es w' h.2.2 with ⟨j, e, h1, h2, h3⟩ | ⟨h1, _⟩
 ·exact absurd h3 (hg e (List.mem_of_getElem? h2))
 ·exact h1
theorem run_lookK (h : MapP g d es ck w) (ht : P.underlying t = some (.map kt e)) (hk : KLaw P kt d k) (hg : MGet es k v) (c : Bool) : (Instr.lookup t (.map (some g)) k c).run P w = .ok (if c then .tuple #[v, .bool true] else v) w := by
 obtain ⟨j, e, h1, _, _, _⟩ := find_get h hk hg w
 simp [Instr.lookup, run_underlying ht, MapKept.run_getObj_map h.1, hk.chk, h1]
theorem run_look_noK (h : MapP g d es ck w) (ht : P.underlying t = some (.map kt e)) (hk : KLaw P kt d k) (hg : MNo es k) (hz : zeroOf P e = some z) (c : Bool) : (Instr.lookup t (.map (some g)) k c).run P w = .ok (if c then .tuple #[z, .bool false] else z) w := by
 obtain ⟨i, hi, hz'⟩ := zeroOf_spec hz
 simp [Instr.lookup, run_underlying ht, MapKept.run_getObj_map h.1, hk.chk, find_no h hk hg w, zeroValue, typeInfo, hi, hz']
end
section
variable {P : Program} {C : World → Prop} {n : Nat} {l : Env} {ty t kt e : TypeId} {x y : Operand} {g ck r : Nat} {d : TypeDesc} {es vs : List MapEntry} {k v z : Value}
theorem pu_lookK (hb : ∀ W, C W → (mp g d es ck).P W) (hx : ev l x = some (.map (some g))) (hy : ev l y = some k) (ht : P.underlying t = some (.map kt e)) (hk : KLaw P kt d k) (hg : MGet es k v) (c : Bool) : Pu P C n l (.lookup t x y c) ty (if c then .tuple #[v, .bool true] else v) := by
 unfold Pu
 intro a _ _ _ _ W hs hC
 simp only [execOp, hs.ev hx, hs.ev hy]
 simp [run_lookK (mp_P ▸ hb W hC) ht hk hg c]
theorem pu_look_noK (hb : ∀ W, C W → (mp g d es ck).P W) (hx : ev l x = some (.map (some g))) (hy : ev l y = some k) (ht : P.underlying t = some (.map kt e)) (hk : KLaw P kt d k) (hg : MNo es k) (hz : zeroOf P e = some z) (c : Bool) : Pu P C n l (.lookup t x y c) ty (if c then .tuple #[z, .bool false] else z) := by
 unfold Pu
 intro a _ _ _ _ W hs hC
 simp only [execOp, hs.ev hx, hs.ev hy]
 simp [run_look_noK (mp_P ▸ hb W hC) ht hk hg hz c]
theorem pu_look (hb : ∀ W, C W → (mp g d es ck).P W) (hx : ev l x = some (.map (some g))) (hy : ev l y = some k) (ht : P.underlying t = some (.map kt e)) (hd : P.underlying kt = some d) (hk : IsKey d k) (hg : MGet es k v) (c : Bool) : Pu P C n l (.lookup t x y c) ty (if c then .tuple #[v, .bool true] else v) := pu_lookK hb hx hy ht (.of hd hk) hg c
theorem pu_look_no (hb : ∀ W, C W → (mp g d es ck).P W) (hx : ev l x = some (.map (some g))) (hy : ev l y = some k) (ht : P.underlying t = some (.map kt e)) (hd : P.underlying kt = some d) (hk : IsKey d k) (hg : MNo es k) (hz : zeroOf P e = some z) (c : Bool) : Pu P C n l (.lookup t x y c) ty (if c then .tuple #[z, .bool false] else z) := pu_look_noK hb hx hy ht (.of hd hk) hg hz c
theorem pu_lenm (hb : ∀ W, C W → (mp g d es ck).P W) (hx : ev l x = some (.map (some g))) (ht : P.underlying t = some (.map kt e)) : Pu P C n l (.call { callee := .builtin .len, args := #[x], argTypes := #[t] }) ty (.int .i64 es.length) := by
 unfold Pu
 intro a _ _ _ _ W hs hC
 have h := (mp_P ▸ hb W hC : MapP g d es ck W)
 simp only [execOp, resolve, List.map_toArray, List.map_cons, List.map_nil, hs.ev hx]
 simp [invoke, builtin, Builtin.len_, run_underlying ht, MapKept.run_getObj_map h.1, goInt]
theorem pu_entry {me : MapEntry} (hb : ∀ W, C W → (mp g d es ck).P W) (hi : ∀ W, C W → (itr r g ck (vs ++ [me])).P W) (hx : ev l x = some (.pointer (some ⟨r, 0, none⟩))) (he : me ∈ es) : Pu P C n l (.entry x) ty (.tuple #[me.key, me.val]) := by
 unfold Pu
 intro a _ _ _ _ W hs hC
 have h := (mp_P ▸ hb W hC : MapP g d es ck W)
 have h2 := (itr_P ▸ hi W hC : ItrP r g ck (vs ++ [me]) W)
 unfold ItrP at h2
 simp only [execOp, hs.ev hx]
 rw [Sem.run_bind, run_entry_at W r g ck (vs.map (·.born)).toArray es.toArray ck me (by simpa using h2) h.1 (by simpa using he) h.2.1.2.1]
 rfl
end
section
variable {P : Program} {ops : Array Oper} {Q : Exit → Act → World → Prop} {n : Nat} {l : Env} {L L' : List Fa} {rest : List Oper} {d' : Tmp} {ty t kt e : TypeId} {pos : String} {after : Array Edge} {x y u : Operand} {g ck r : Nat} {d : TypeDesc} {es vs A B : List MapEntry} {k v z : Value} {dst : Option Tmp}
theorem sl_makeMap (hd : Nat.blt d' n = true) (h : ∀ g, SL P ops Q rest n ((d', .map (some g)) :: l) (mp g d [] 0 :: L)) : SL P ops Q (⟨some d', .makeMap t none, ty, pos, after, none⟩ :: rest) n l L := sl_of fun w hw => by
 refine wl_run (v := .map (some w.heap.size)) (w' := w.alloc (.map #[] 0)) ?_ hd ((h w.heap.size).to ?_)
 ·unfold Ru
  intro a _ _ _ _ hs
  simp [execOp, Instr.makeMap]
 ·refine hw.new ((Fr.refl Nil w).alloc _) ?_ (fun j hj => by rw [mp_F] at hj; omega)
  rw [mp_P]; exact ⟨heap_alloc_new w _, by simpa using stamped_empty 0, by simp⟩
theorem setAt_fr {w : World} {g : Nat} {o : Obj} : Fr (fun j => j = g) w { w with heap := w.heap.setIfInBounds g o } :=
 ⟨rfl, rfl, rfl, by simp, fun j hj hn => by simp [Array.getElem?_setIfInBounds, Ne.symm hn]⟩
theorem sl_mapNewK (hx : ev l x = some (.map (some g))) (hy : ev l y = some k) (hu : ev l u = some v) (hp : Pick (mp g d es ck) L L') (ht : P.underlying t = some (.map kt e)) (hk : KLaw P kt d k) (hg : MNo es k)
  (h : SL P ops Q rest n l (mp g d (es ++ [⟨k, v, ck⟩]) (ck + 1) :: L')) : SL P ops Q (⟨none, .mapUpdate t x y u, ty, pos, after, none⟩ :: rest) n l L := sl_of fun w hw => by
 have h2 := hw.pick hp
 have hm : MapP g d es ck w := mp_P ▸ h2.hd
 refine wl_skip (w' := { w with heap := w.heap.setIfInBounds g (.map (es ++ [(⟨k, v, ck⟩ : MapEntry)]).toArray (ck + 1)) }) ?_ (h.to ?_)
 ·unfold Rs
  intro a _ _ _ _ hs
  simp only [execOp, hs.ev hx, hs.ev hy, hs.ev hu]
  simp [Instr.mapUpdate, run_underlying ht, MapKept.run_getObj_map hm.1, hk.chk, find_no hm hk hg w, run_setObj_map _ hm.1]
 ·refine h2.step setAt_fr (fun j _ e => by rw [mp_F]; exact e) ?_ (fun j hj => .inl (by rw [mp_F] at hj ⊢; exact hj))
  rw [mp_P]
  refine ⟨by simp [heap_lt hm.1], ?_, ?_⟩
  ·have := stamped_push hm.2.1 (key := k) (val := v) (by simpa [MNo] using hg)
   simpa using this
  ·intro x hx
   rcases List.mem_append.1 hx with e | e
   ·exact hm.2.2 x e
   ·rw [List.mem_singleton] at e
    subst e; exact hk.isK
theorem sl_mapNew (hx : ev l x = some (.map (some g))) (hy : ev l y = some k) (hu : ev l u = some v) (hp : Pick (mp g d es ck) L L') (ht : P.underlying t = some (.map kt e)) (hd : P.underlying kt = some d) (hk : IsKey d k) (hg : MNo es k)
  (h : SL P ops Q rest n l (mp g d (es ++ [⟨k, v, ck⟩]) (ck + 1) :: L')) : SL P ops Q (⟨none, .mapUpdate t x y u, ty, pos, after, none⟩ :: rest) n l L := sl_mapNewK hx hy hu hp ht (.of hd hk) hg h
theorem sl_mapPutK {me : MapEntry} (hx : ev l x = some (.map (some g))) (hy : ev l y = some me.key) (hu : ev l u = some v) (hp : Pick (mp g d (A ++ me :: B) ck) L L') (ht : P.underlying t = some (.map kt e)) (hk : KLaw P kt d me.key)
  (h : SL P ops Q rest n l (mp g d (A ++ ⟨me.key, v, me.born⟩ :: B) ck :: L')) : SL P ops Q (⟨none, .mapUpdate t x y u, ty, pos, after, none⟩ :: rest) n l L := sl_of fun w hw => by
 have h2 := hw.pick hp
 have hm : MapP g d (A ++ me :: B) ck w := mp_P ▸ h2.hd
 have hin : me ∈ A ++ me :: B := by simp
 obtain ⟨j, e', h1, h3, h4, h5⟩ := find_get hm hk ⟨me, hin, rfl, rfl⟩ w
 have h6 : e' = me := key_one hm.2.1 (List.mem_of_getElem? h3) hin h4
 subst h6
 have hj : j = A.length := by
  have hn := hm.2.1.2.1
  rw [List.toList_toArray] at hn
  obtain ⟨hl, h7⟩ := List.getElem?_eq_some_iff.1 h3
  refine (List.getElem?_inj (l := (A ++ e' :: B).map (·.born)) (by simpa using hl) hn).1 ?_; rw [List.getElem?_map, List.getElem?_map, h3]
  simp
 subst hj
 have hmod : (A ++ e' :: B).toArray.modify A.length (fun x => { x with key := e'.key, val := v }) = (A ++ ⟨e'.key, v, e'.born⟩ :: B).toArray := by
  apply Array.ext'
  apply List.ext_getElem?
  intro j; rw [Array.getElem?_toList, Array.getElem?_modify, List.getElem?_toArray, List.toList_toArray]
  rcases Nat.lt_trichotomy j A.length with h | h | h
  ·rw [if_neg (by omega), List.getElem?_append_left h, List.getElem?_append_left h]
  ·subst h; rw [if_pos rfl]
   simp
  ·obtain ⟨m, hm⟩ : ∃ m, j - A.length = m + 1 := ⟨j - A.length - 1, by omega⟩
   rw [if_neg (by omega), List.getElem?_append_right (by omega), List.getElem?_append_right (by omega), hm]
   simp
 refine wl_skip (w' := { w with heap := w.heap.setIfInBounds g (.map (A ++ (⟨e'.key, v, e'.born⟩ : MapEntry) :: B).toArray ck) }) ?_ (h.to ?_)
 ·unfold Rs
  intro a _ _ _ _ hs
  simp only [execOp, hs.ev hx, hs.ev hy, hs.ev hu]
  rw [← hmod]
  simp [Instr.mapUpdate, run_underlying ht, MapKept.run_getObj_map hm.1, hk.chk, h1, run_setObj_map _ hm.1, h3, hk.stay]
 ·refine h2.step setAt_fr (fun j _ e => by rw [mp_F]; exact e) ?_ (fun j hj => .inl (by rw [mp_F] at hj ⊢; exact hj))
  rw [mp_P]
  refine ⟨by simp [heap_lt hm.1], ?_, ?_⟩
  ·have := stamped_modify hm.2.1 A.length (fun x => { x with key := e'.key, val := v }) (fun _ _ => rfl) (fun y _ hy => by
     simp at hy
     subst hy
     rfl)
   rw [hmod] at this
   exact this
  ·intro x hx
   rcases List.mem_append.1 hx with e | e
   ·exact hm.2.2 x (List.mem_append_left _ e)
   ·rcases List.mem_cons.1 e with e | e
    ·subst e; exact hk.isK
    ·exact hm.2.2 x (List.mem_append_right _ (List.mem_cons_of_mem _ e))
theorem sl_mapPut {me : MapEntry} (hx : ev l x = some (.map (some g))) (hy : ev l y = some me.key) (hu : ev l u = some v) (hp : Pick (mp g d (A ++ me :: B) ck) L L') (ht : P.underlying t = some (.map kt e)) (hd : P.underlying kt = some d) (hk : IsKey d me.key)
  (h : SL P ops Q rest n l (mp g d (A ++ ⟨me.key, v, me.born⟩ :: B) ck :: L')) : SL P ops Q (⟨none, .mapUpdate t x y u, ty, pos, after, none⟩ :: rest) n l L := sl_mapPutK hx hy hu hp ht (.of hd hk) h
theorem sl_range (hx : ev l x = some (.map (some g))) (hm : At (mp g d es ck) L) (ht : P.underlying t = some (.map kt e)) (hd : Nat.blt d' n = true)
  (h : ∀ r, SL P ops Q rest n ((d', .pointer (some ⟨r, 0, none⟩)) :: l) (itr r g ck [] :: L)) : SL P ops Q (⟨some d', .range t x, ty, pos, after, none⟩ :: rest) n l L := sl_of fun w hw => by
 have h1 : MapP g d es ck w := mp_P ▸ hw.at hm
 refine wl_run (v := .pointer (some ⟨w.heap.size, 0, none⟩)) (w' := w.alloc (.mapIter (some g) ck #[] ck)) ?_ hd ((h w.heap.size).to ?_)
 ·unfold Ru
  intro a _ _ _ _ hs
  simp only [execOp, hs.ev hx]
  rw [Sem.run_bind, run_range_map w t kt e g es.toArray ck ht h1.1]
  rfl
 ·refine hw.new ((Fr.refl Nil w).alloc _) ?_ (fun j hj => by rw [itr_F] at hj; omega)
  rw [itr_P]
  unfold ItrP
  exact heap_alloc_new w _
theorem sl_next (hx : ev l x = some (.pointer (some ⟨r, 0, none⟩))) (hm : At (mp g d es ck) L) (hp : Pick (itr r g ck vs) L L') (hv : ∀ y ∈ vs, y ∈ es) (hd : Nat.blt d' n = true)
  (h0 : (∀ y ∈ es, y ∈ vs) → SL P ops Q rest n ((d', .tuple #[.bool false]) :: l) L)
  (h1 : ∀ y ∈ es, y ∉ vs → SL P ops Q rest n ((d', .tuple #[.bool true, y.key, y.val]) :: l) (itr r g ck (vs ++ [y]) :: L')) : SL P ops Q (⟨some d', .next x false, ty, pos, after, none⟩ :: rest) n l L := sl_of fun w hw => by
 have hM : MapP g d es ck w := mp_P ▸ hw.at hm
 have h2 := hw.pick hp
 have hI : ItrP r g ck vs w := itr_P ▸ h2.hd
 unfold ItrP at hI
 rcases run_next_at w ty r g ck ck (vs.map (·.born)).toArray es.toArray ck hI hM.1 (fun x hx => hM.2.1.1 x hx) (Nat.le_refl _) with ⟨hl, hr⟩ | ⟨y, hy, w1, hw1, hr⟩
 ·refine wl_run (v := .tuple #[.bool false]) (w' := w) ?_ hd ((h0 fun y hy => ?_).to hw)
  ·unfold Ru
   intro a _ _ _ _ hs
   simp only [execOp, hs.ev hx]
   rw [Sem.run_bind, hr]
   rfl
  ·have h3 := all_seen es.toArray _ hl y (by simpa using hy)
   simp only [List.contains_toArray, List.contains_iff_mem, List.mem_map] at h3
   obtain ⟨u, hu, hb⟩ := h3
   rw [← born_one hM.2.1 (hv u hu) hy hb]; exact hu
 ·obtain ⟨hye, hyn⟩ := mem_left hy
  have hye' : y ∈ es := by simpa using hye
  have hyv : y ∉ vs := fun hc => by
   have : (vs.map (·.born)).toArray.contains y.born = true := by
    simp only [List.contains_toArray, List.contains_iff_mem, List.mem_map]
    exact ⟨y, hc, rfl⟩
   rw [this] at hyn
   cases hyn
  have hF1 : Fr Nil w w1 := by
   rcases hw1 with rfl | rfl
   ·exact Fr.refl _ _
   ·exact (Fr.refl _ _).drew
  have hI1 : w1.heap[r]? = some (.mapIter (some g) ck (vs.map (·.born)).toArray ck) := by rcases hw1 with rfl | rfl <;> exact hI
  refine wl_run (v := .tuple #[.bool true, y.key, y.val]) (w' := ChangeMaps.setBlock w1 r (.mapIter (some g) ck ((vs.map (·.born)).toArray.push y.born) ck)) ?_ hd ((h1 y hye' hyv).to ?_)
  ·unfold Ru
   intro a _ _ _ _ hs
   simp only [execOp, hs.ev hx]
   rw [Sem.run_bind, hr]
   rfl
  ·refine (h2.nil hF1).step (S := fun j => j = r) ?_ (fun j _ e => by rw [itr_F]; exact e) ?_ (fun j hj => .inl (by rw [itr_F] at hj ⊢; exact hj))
   ·unfold ChangeMaps.setBlock
    exact setAt_fr
   ·rw [itr_P]
    unfold ItrP ChangeMaps.setBlock
    simp [heap_lt hI1]
end
end
end
end Go.Proofs.YtocaabnbmcpjmaaGreat
