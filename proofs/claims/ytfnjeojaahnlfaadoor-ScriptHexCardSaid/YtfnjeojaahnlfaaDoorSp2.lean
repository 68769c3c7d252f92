/- More steps of the walk over facts: copy within a row, rows of like elements, make, comparisons with nil. No program is in sight. -/
import Derived.Test.YtfnjeojaahnlfaaDoorSep
import Derived.Test.YtfnjeojaahnlfaaDoorOp
import Derived.Laws.CopyOwn
import Derived.Laws.MakeOwn
import Derived.Lib.Overlaps
import Derived.Lib.AppendZerosOnto
namespace Go.Proofs.YtfnjeojaahnlfaaDoor
open Go.RowKit

section
variable {P : Program} {C : World → Prop} {n : Nat} {l : Env} {ty t t' : TypeId} {x y : Operand} {v : Value} {k k' : IntKind} {p q : Int} {A : Option Addr} {m c : Nat} {ad : Addr}
theorem pu_nilCheck (hx : ev l x = some (.pointer (some ad))) : Pu P C n l (.nilCheck x) ty (.pointer (some ad)) := by
  unfold Pu
  intro a _ _ _ _ W hs _
  simp [execOp, hs.ev hx]
theorem pu_ptr_some_eql {e : TypeId} (hx : ev l x = some (.pointer (some ad))) (hy : ev l y = some (.pointer none)) (ht : P.underlying t = some (.pointer e)) : Pu P C n l (.binOp .eql t x y t') ty (.bool false) := by
  unfold Pu
  intro a _ _ _ _ W hs _
  have hp : P.underlying t = some (.pointer (P.pointee t)) := by simp [Program.pointee, ht]
  simp only [execOp, hs.ev hx, hs.ev hy]
  rw [Sem.run_bind, Sem.run_bind]
  simp [go_sem, run_eql_pointer_nil W t _ hp]
theorem pu_ptr_none_eql {e : TypeId} (hx : ev l x = some (.pointer none)) (hy : ev l y = some (.pointer none)) (ht : P.underlying t = some (.pointer e)) : Pu P C n l (.binOp .eql t x y t') ty (.bool true) := by
  unfold Pu
  intro a _ _ _ _ W hs _
  have hp : P.underlying t = some (.pointer (P.pointee t)) := by simp [Program.pointee, ht]
  simp only [execOp, hs.ev hx, hs.ev hy]
  rw [Sem.run_bind, Sem.run_bind]
  simp [go_sem, run_eql_pointer_nil W t _ hp]
theorem pu_ptr_some_neq {e : TypeId} (hx : ev l x = some (.pointer (some ad))) (hy : ev l y = some (.pointer none)) (ht : P.underlying t = some (.pointer e)) : Pu P C n l (.binOp .neq t x y t') ty (.bool true) := by
  unfold Pu
  intro a _ _ _ _ W hs _
  have hp : P.underlying t = some (.pointer (P.pointee t)) := by simp [Program.pointee, ht]
  simp only [execOp, hs.ev hx, hs.ev hy]
  rw [Sem.run_bind, Sem.run_bind]
  simp [go_sem, run_neq_pointer_nil W t _ hp]
theorem pu_ptr_none_neq {e : TypeId} (hx : ev l x = some (.pointer none)) (hy : ev l y = some (.pointer none)) (ht : P.underlying t = some (.pointer e)) : Pu P C n l (.binOp .neq t x y t') ty (.bool false) := by
  unfold Pu
  intro a _ _ _ _ W hs _
  have hp : P.underlying t = some (.pointer (P.pointee t)) := by simp [Program.pointee, ht]
  simp only [execOp, hs.ev hx, hs.ev hy]
  rw [Sem.run_bind, Sem.run_bind]
  simp [go_sem, run_neq_pointer_nil W t _ hp]
theorem pu_slice_some_eql {e : TypeId} (hx : ev l x = some (.slice (some ad) m c)) (hy : ev l y = some (.slice none 0 0)) (ht : P.underlying t = some (.slice e)) : Pu P C n l (.binOp .eql t x y t') ty (.bool false) := by
  unfold Pu
  intro a _ _ _ _ W hs _
  simp only [execOp, hs.ev hx, hs.ev hy]
  rw [Sem.run_bind, Sem.run_bind]
  simp [go_sem, Lib.run_eql_slice_nil W t e _ _ _ _ _ ht]
theorem pu_slice_none_eql {e : TypeId} (hx : ev l x = some (.slice none m c)) (hy : ev l y = some (.slice none 0 0)) (ht : P.underlying t = some (.slice e)) : Pu P C n l (.binOp .eql t x y t') ty (.bool true) := by
  unfold Pu
  intro a _ _ _ _ W hs _
  simp only [execOp, hs.ev hx, hs.ev hy]
  rw [Sem.run_bind, Sem.run_bind]
  simp [go_sem, Lib.run_eql_slice_nil W t e _ _ _ _ _ ht]
theorem pu_slice_some_neq {e : TypeId} (hx : ev l x = some (.slice (some ad) m c)) (hy : ev l y = some (.slice none 0 0)) (ht : P.underlying t = some (.slice e)) : Pu P C n l (.binOp .neq t x y t') ty (.bool true) := by
  unfold Pu
  intro a _ _ _ _ W hs _
  simp only [execOp, hs.ev hx, hs.ev hy]
  rw [Sem.run_bind, Sem.run_bind]
  simp [go_sem, run_neq_slice_nil_any W t e _ _ _ _ _ ht]
theorem pu_slice_none_neq {e : TypeId} (hx : ev l x = some (.slice none m c)) (hy : ev l y = some (.slice none 0 0)) (ht : P.underlying t = some (.slice e)) : Pu P C n l (.binOp .neq t x y t') ty (.bool false) := by
  unfold Pu
  intro a _ _ _ _ W hs _
  simp only [execOp, hs.ev hx, hs.ev hy]
  rw [Sem.run_bind, Sem.run_bind]
  simp [go_sem, run_neq_slice_nil_any W t e _ _ _ _ _ ht]
theorem pu_eql_d (hx : ev l x = some (.int k p)) (hy : ev l y = some (.int k q)) : Pu P C n l (.binOp .eql t x y t') ty (.bool (decide (p = q))) := by
  have h := pu_eql (P := P) (C := C) (n := n) (ty := ty) (t := t) (t' := t') hx hy
  have e : decide (p = q) = (p == q) := by by_cases h : p = q <;> simp [h]
  rw [e]
  exact h
theorem pu_neq_d (hx : ev l x = some (.int k p)) (hy : ev l y = some (.int k q)) : Pu P C n l (.binOp .neq t x y t') ty (.bool (!decide (p = q))) := by
  have h := pu_neq (P := P) (C := C) (n := n) (ty := ty) (t := t) (t' := t') hx hy
  have e : (!decide (p = q)) = (p != q) := by by_cases h : p = q <;> simp [h, bne]
  rw [e]
  exact h
theorem pu_shr (hx : ev l x = some (.int k p)) (hy : ev l y = some (.int k' q)) (h0 : 0 ≤ q) (h1 : q ≤ k.bits) : Pu P C n l (.binOp .shr t x y t') ty (.int k (p / 2 ^ q.toNat)) := by
  unfold Pu
  intro a _ _ _ _ W hs _
  simp only [execOp, hs.ev hx, hs.ev hy, eqGuard_shr, binOp_shr, shift_shr k k' p q h0 h1]
  rfl
theorem pu_shr_1 (hx : ev l x = some (.int k p)) (hy : ev l y = some (.int k' 1)) (h1 : (1 : Int) ≤ k.bits) : Pu P C n l (.binOp .shr t x y t') ty (.int k (p / 2)) := by
  have := pu_shr (P := P) (C := C) (n := n) (ty := ty) (t := t) (t' := t') hx hy (by omega) h1
  simpa using this
theorem pu_shr_4 (hx : ev l x = some (.int k p)) (hy : ev l y = some (.int k' 4)) (h1 : (4 : Int) ≤ k.bits) : Pu P C n l (.binOp .shr t x y t') ty (.int k (p / 16)) := by
  have := pu_shr (P := P) (C := C) (n := n) (ty := ty) (t := t) (t' := t') hx hy (by omega) h1
  simpa using this
theorem pu_add_u (hx : ev l x = some (.int .u64 p)) (hy : ev l y = some (.int .u64 q)) (h : 0 ≤ p + q ∧ p + q ≤ 18446744073709551615) : Pu P C n l (.binOp .add t x y t') ty (.int .u64 (p + q)) := by
  have h1 := pu_add_w (P := P) (C := C) (n := n) (ty := ty) (t := t) (t' := t') hx hy
  rw [IntKind.wrap_u64, Int.emod_eq_of_lt h.1 (by omega)] at h1
  exact h1
theorem pu_sub_u (hx : ev l x = some (.int .u64 p)) (hy : ev l y = some (.int .u64 q)) (h : 0 ≤ p - q ∧ p - q ≤ 18446744073709551615) : Pu P C n l (.binOp .sub t x y t') ty (.int .u64 (p - q)) := by
  have h1 := pu_sub_w (P := P) (C := C) (n := n) (ty := ty) (t := t) (t' := t') hx hy
  rw [IntKind.wrap_u64, Int.emod_eq_of_lt h.1 (by omega)] at h1
  exact h1
theorem pu_mul_u (hx : ev l x = some (.int .u64 p)) (hy : ev l y = some (.int .u64 q)) (h : 0 ≤ p * q ∧ p * q ≤ 18446744073709551615) : Pu P C n l (.binOp .mul t x y t') ty (.int .u64 (p * q)) := by
  have h1 := pu_mul_w (P := P) (C := C) (n := n) (ty := ty) (t := t) (t' := t') hx hy
  rw [IntKind.wrap_u64, Int.emod_eq_of_lt h.1 (by omega)] at h1
  exact h1
theorem pu_cap {e : TypeId} (hx : ev l x = some (.slice A m c)) (ht : P.underlying t = some (.slice e)) : Pu P C n l (.call { callee := .builtin .cap, args := #[x], argTypes := #[t] }) ty (.int .i64 c) := by
  unfold Pu
  intro a _ _ _ _ W hs _
  simp only [execOp, resolve, List.map_toArray, List.map_cons, List.map_nil, hs.ev hx]
  simp [invoke, builtin, Builtin.cap_, run_underlying ht]
  rfl
end

/-! Rows of like elements. -/
def rows {X : Type} (C : X → List Value) (ss : List X) : List Value := ss.flatMap C
section
variable {X : Type} {C : X → List Value} {sz : Nat}
theorem rows_len (hC : ∀ s, (C s).length = sz) : ∀ (ss : List X), (rows C ss).length = ss.length * sz
  | [] => by simp [rows]
  | s :: r => by
    have ih := rows_len hC r
    unfold rows at ih ⊢
    rw [List.flatMap_cons, List.length_append, hC, ih, List.length_cons, Nat.succ_mul]
    omega
theorem rows_nil : rows C [] = [] := rfl
theorem rows_cons (s : X) (r : List X) : rows C (s :: r) = C s ++ rows C r := rfl
theorem rows_app (a b : List X) : rows C (a ++ b) = rows C a ++ rows C b := by simp [rows]
theorem rows_one (s : X) : rows C [s] = C s := by simp [rows]
theorem rows_take (hC : ∀ s, (C s).length = sz) : ∀ (ss : List X) (i : Nat), (rows C ss).take (i * sz) = rows C (ss.take i)
  | [], i => by simp [rows]
  | s :: r, 0 => by simp [rows]
  | s :: r, i + 1 => by
    rw [rows_cons, List.take_succ_cons, rows_cons, Nat.succ_mul, Nat.add_comm, List.take_append, hC, Nat.add_sub_cancel_left, rows_take hC r i, List.take_of_length_le (by rw [hC]; omega)]
theorem rows_drop (hC : ∀ s, (C s).length = sz) : ∀ (ss : List X) (i : Nat), (rows C ss).drop (i * sz) = rows C (ss.drop i)
  | [], i => by simp [rows]
  | s :: r, 0 => by simp [rows]
  | s :: r, i + 1 => by
    rw [rows_cons, List.drop_succ_cons, Nat.succ_mul, Nat.add_comm, List.drop_append, hC, Nat.add_sub_cancel_left, rows_drop hC r i, List.drop_of_length_le (by rw [hC]; omega)]
    rfl
theorem rows_mid (hC : ∀ s, (C s).length = sz) {ss : List X} {i : Nat} {s : X} (hs : ss[i]? = some s) : Mid (rows C ss) (i * sz) (C s) := by
  obtain ⟨hl, rfl⟩ := List.getElem?_eq_some_iff.1 hs
  have h : ss = ss.take i ++ ss[i] :: ss.drop (i + 1) := by rw [← List.drop_eq_getElem_cons hl, List.take_append_drop]
  have h2 : rows C ss = rows C (ss.take i) ++ C ss[i] ++ rows C (ss.drop (i + 1)) := by
    conv => lhs; rw [h]
    rw [rows_app, rows_cons, List.append_assoc]
  rw [h2]
  exact Mid.of_append (by rw [rows_len hC, List.length_take, Nat.min_eq_left (Nat.le_of_lt hl)])
theorem rows_nth (hC : ∀ s, (C s).length = sz) {ss : List X} {i j : Nat} {s : X} {v : Value} (hs : ss[i]? = some s) (hv : nth (C s) j = some v) : nth (rows C ss) (i * sz + j) = some v := by
  rw [nth_eq] at hv ⊢
  exact rows_mid hC hs j v hv
theorem rows_one_cell (hC : ∀ s, ∀ v ∈ C s, v.oneCell' = true) (ss : List X) : ∀ v ∈ rows C ss, v.oneCell' = true := by
  intro v hv
  unfold rows at hv
  obtain ⟨s, _, h⟩ := List.mem_flatMap.1 hv
  exact hC s v h
end

theorem vw_form {L : List Fa} {size n : Nat} {A : Option Addr} {xs : List Value} (hr : Vw L (fun w => Reads w size A n xs)) (hn : 0 < n) : ∀ w, Sep w L → ∃ ad, A = some ad := fun w hw => by
  obtain ⟨ad, h, _⟩ := (hr w hw).2 hn
  exact ⟨ad, h⟩

theorem vw_cells {L : List Fa} {size n : Nat} {ad : Addr} {xs : List Value} (hr : Vw L (fun w => Reads w size (some ad) n xs)) (hn : 0 < n) : ∀ w, Sep w L → ∀ j v, xs[j]? = some v → w.cell? (ad.add j) = some v := fun w hw => by
  obtain ⟨ad', h, h2⟩ := (hr w hw).2 hn
  cases h
  exact h2

theorem own_at {w : World} {L : List Fa} {e : TypeId} {size n c : Nat} {A : Option Addr} {xs : List Value} (hw : Sep w L) (h : At (own e size A n c xs) L) : w.ownsRow 0 e size (.slice A n c) n xs := by
  have := hw.at h
  unfold own at this
  exact this
theorem blk_at {w : World} {L : List Fa} {g : Nat} {t : TypeId} {cs : List Value} (hw : Sep w L) (h : At (blk g t cs) L) : Blk w g t cs.toArray := by
  have := hw.at h
  unfold blk at this
  exact this
/-! copy -/
theorem run_copy_rows {P : Program} (w : World) (dT sT ty elem : TypeId) (g o dLen dCap : Nat) (a : Addr) (sLen sCap size : Nat) (cur : Array Value) (t : TypeId) (cs : List Value)
    (hu : P.underlying dT = some (.slice elem)) (hs : szOf P elem = some size)
    (hg : w.heap[g]? = some (.cells cur t (0, 0))) (hn : cs.length = Nat.min sLen dLen * size)
    (hsrc : ∀ j v, cs[j]? = some v → w.cell? (a.add j) = some v) (hfit : o + cs.length ≤ cur.size) (h1 : ∀ v ∈ cs, v.oneCell' = true) :
    (Builtin.copy_ #[dT, sT] ty #[.slice (some ⟨g, o, none⟩) dLen dCap, .slice (some a) sLen sCap]).run P w =
      .ok (goInt (Nat.min sLen dLen)) (w.setRow g (cur.toList.take o ++ cs ++ cur.toList.drop (o + cs.length)).toArray) := by
  have hl := run_loadCells_list (P := P) w a cs hsrc
  have hst := run_storeCells_at P g o t cs 0 cur w hg (by simpa using hfit) h1
  have hsz := run_size (P := P) hs
  simp [Builtin.copy_, run_underlying hu, Builtin.lenOf, Builtin.firstCells, hsz, ← hn, hl, hst]

section
variable {P : Program} {ops : Array Oper} {Q : Exit → Act → World → Prop} {n : Nat} {l : Env} {L L' : List Fa} {rest : List Oper} {d : Tmp} {dst : Option Tmp} {ty t t' e : TypeId} {pos : String} {after : Array Edge} {x y : Operand} {g o c dLen dCap sLen sCap size k kk m bytes : Nat} {A B : Option Addr} {a : Addr} {xs cs : List Value} {z : Value}
theorem setRow_size (w : World) (g : Nat) (cs : Array Value) : (w.setRow g cs).heap.size = w.heap.size := by simp [World.setRow]
theorem setRow_fr (w : World) (g : Nat) (cs : Array Value) : Fr (fun k => k = g) w (w.setRow g cs) := by
  exact ⟨rfl, rfl, rfl, Nat.le_of_eq (setRow_size w g cs).symm, fun k _ hn => setRow_other w g k cs hn⟩
/-- What a copy into an owned row leaves. -/
theorem sep_copy {w : World} (hw : Sep w L) (hp : Pick (own e size (some ⟨g, 0, none⟩) k c xs) L L') (hsz : szOf P e = some size) (ht : P.underlying t = some (.slice e)) (hk : min sLen dLen = kk) (hn : cs.length = kk * size) (hr : ∀ w, Sep w L → ∀ j v, cs[j]? = some v → w.cell? (a.add j) = some v) (hfit : o + cs.length ≤ k * size) (h1 : ∀ v ∈ cs, v.oneCell' = true) :
    ∃ w', (Builtin.copy_ #[t, t'] ty #[.slice (some ⟨g, o, none⟩) dLen dCap, .slice (some a) sLen sCap]).run P w = .ok (goInt kk) w' ∧ Sep w' (own e size (some ⟨g, 0, none⟩) k c (xs.take o ++ cs ++ xs.drop (o + cs.length)) :: L') := by
  subst hk
  have h2 := hw.pick hp
  have hO : w.ownsRow 0 e size (.slice (some ⟨g, 0, none⟩) k c) k xs := by
    have := h2.hd
    unfold own at this
    exact this
  obtain ⟨hxl, h⟩ := hO
  rcases h with ⟨h, _⟩ | ⟨g', cap, cur, hv, hb, hh, hkc, hcm, hcs, htk⟩
  · cases h
  injection hv with hA hk hc
  injection hA with hA
  injection hA with hg
  subst hg hc
  have hks : k * size ≤ c * size := Nat.mul_le_mul_right _ hkc
  refine ⟨_, run_copy_rows w t t' ty e g o dLen dCap a sLen sCap size cur e cs ht hsz hh hn (hr w hw) (by omega) h1, ?_⟩
  refine h2.step (setRow_fr w g _) (fun j _ e => by unfold own; exact congrArg some e.symm) ?_ (fun j hj => .inl (by unfold own at hj ⊢; exact hj))
  have hxc : xs.length ≤ cur.toList.length := by rw [← htk, List.length_take]; omega
  have hre : w.setRow g (cur.toList.take o ++ cs ++ cur.toList.drop (o + cs.length)).toArray = w.setRow g (cur.toList.take o ++ cs ++ cur.toList.drop (o + cs.length)).toArray := rfl
  have hP : (w.setRow g (cur.toList.take o ++ cs ++ cur.toList.drop (o + cs.length)).toArray).ownsRow 0 e size (.slice (some ⟨g, 0, none⟩) k c) k (xs.take o ++ cs ++ xs.drop (o + cs.length)) := by
    refine ⟨by simp; omega, .inr ⟨g, c, _, rfl, Nat.zero_le _, setRow_heap w g cur _ e (0, 0) hh, hkc, hcm, by simp; omega, ?_⟩⟩
    have e1 : (cur.toList.take o) = xs.take o := by rw [← htk, List.take_take, Nat.min_eq_left (by omega)]
    have e2 : xs.drop (o + cs.length) = (cur.toList.drop (o + cs.length)).take (k * size - (o + cs.length)) := by rw [← htk, List.drop_take]
    rw [List.toList_toArray, e2, ← e1, List.take_append, List.take_of_length_le (by simp; omega)]
    congr 1
    simp
    congr 1
    omega
  unfold own
  exact hP
theorem sl_copy0 (hx : ev l x = some (.slice (some ⟨g, o, none⟩) dLen dCap)) (hp : Pick (own e size (some ⟨g, 0, none⟩) k c xs) L L') (hy : ev l y = some (.slice (some a) sLen sCap)) (hsz : szOf P e = some size) (ht : P.underlying t = some (.slice e)) (hk : min sLen dLen = kk) (hn : cs.length = kk * size)
    (hr : ∀ w, Sep w L → ∀ j v, cs[j]? = some v → w.cell? (a.add j) = some v) (hfit : o + cs.length ≤ k * size) (h1 : ∀ v ∈ cs, v.oneCell' = true) (hd : (match dst with | some d => Nat.blt d n | none => true) = true)
    (h : SL P ops Q rest n (match dst with | some d => (d, goInt kk) :: l | none => l) (own e size (some ⟨g, 0, none⟩) k c (xs.take o ++ cs ++ xs.drop (o + cs.length)) :: L')) :
    SL P ops Q (⟨dst, .call { callee := .builtin .copy, args := #[x, y], argTypes := #[t, t'] }, ty, pos, after, none⟩ :: rest) n l L := sl_of fun w hw => WL.mk fun a' hs => by
  obtain ⟨w', hr', hw'⟩ := sep_copy (P := P) (ty := ty) (t' := t') (dCap := dCap) (sCap := sCap) hw hp hsz ht hk hn hr hfit h1
  refine wpList_plain rfl fun K hK => ?_
  unfold Oper.wp
  simp only [execOp, resolve, List.map_toArray, List.map_cons, List.map_nil, hs.ev hx, hs.ev hy]
  simp only [invoke, builtin, Sem.run_bind, Sem.run_pure, Result.andThen_ok, hr']
  cases dst with
  | none => exact hK _ _ ((h.to hw').get hs)
  | some d => exact hK _ _ ((h.to hw').get (hs.put hd _))

theorem sd_copy {S : World → Prop} {need : Nat → Bool} {fuel : Nat} {listed : Array Bool} (j : Nat) (hrd : Region.ready .any ops listed = [j]) (ho : ops[j]? = some ⟨some d, .call { callee := .builtin .copy, args := #[x, y], argTypes := #[t, t'] }, ty, pos, after, none⟩)
    (hx : ev l x = some (.slice (some ⟨g, o, none⟩) dLen dCap)) (hp : Pick (own e size (some ⟨g, 0, none⟩) k c xs) L L') (hy : ev l y = some (.slice (some a) sLen sCap)) (hsz : szOf P e = some size) (ht : P.underlying t = some (.slice e)) (hk : min sLen dLen = kk) (hn : cs.length = kk * size)
    (hr : ∀ w, Sep w L → ∀ j v, cs[j]? = some v → w.cell? (a.add j) = some v) (hfit : o + cs.length ≤ k * size) (h1 : ∀ v ∈ cs, v.oneCell' = true) (hd : Nat.blt d n = true) (hS : ∀ w, Sep w (own e size (some ⟨g, 0, none⟩) k c (xs.take o ++ cs ++ xs.drop (o + cs.length)) :: L') → S w)
    (h : SD P ops Q S need fuel (listed.setIfInBounds j true) n ((d, goInt kk) :: l) (own e size (some ⟨g, 0, none⟩) k c (xs.take o ++ cs ++ xs.drop (o + cs.length)) :: L')) : SD P ops Q S need (fuel + 1) listed n l L := sd_of fun w hw => by
  obtain ⟨w', hr', hw'⟩ := sep_copy (P := P) (ty := ty) (t' := t') (dCap := dCap) (sCap := sCap) hw hp hsz ht hk hn hr hfit h1
  refine wd_run j hrd ho (v := goInt kk) (w' := w') ?_ hd (fun _ => hS w' hw') (h.to hw')
  unfold Ru
  intro a' _ _ _ _ hs
  simp only [execOp, resolve, List.map_toArray, List.map_cons, List.map_nil, hs.ev hx, hs.ev hy]
  simp only [invoke, builtin, Sem.run_bind, Sem.run_pure, Result.andThen_ok, hr']
theorem own_cells (hp : At (own e size (some ⟨g, 0, none⟩) k c xs) L) (hm : Mid xs o cs) (hk : 0 < k) : ∀ w, Sep w L → ∀ j v, cs[j]? = some v → w.cell? ((⟨g, o, none⟩ : Addr).add j) = some v := fun w hw j v hj => by
  have hO : w.ownsRow 0 e size (.slice (some ⟨g, 0, none⟩) k c) k xs := by
    have := hw.at hp
    unfold own at this
    exact this
  obtain ⟨ad, h1, h2⟩ := (Reads.of_own hO).2 hk
  cases h1
  have h3 := h2 _ v (hm j v hj)
  rw [add_none] at h3 ⊢
  rwa [Nat.zero_add] at h3
theorem cutA_some {g c i sz : Nat} (h : c ≠ i) : cutA (some ⟨g, 0, none⟩) c i sz = some ⟨g, i * sz, none⟩ := by
  unfold cutA
  rw [if_neg h, Option.map_some, add_none, Nat.zero_add]
/-- What lies in a row's room becomes its own elements. -/
theorem sep_more {w : World} (hw : Sep w L) (hp : Pick (own e size A k c xs) L L') (hc : k + m ≤ c) : ∃ ext : List Value, ext.length = m * size ∧ Sep w (own e size A (k + m) c (xs ++ ext) :: L') := by
  have h2 := hw.pick hp
  have hO : w.ownsRow 0 e size (.slice A k c) k xs := by
    have := h2.hd
    unfold own at this
    exact this
  obtain ⟨hxl, h⟩ := hO
  rcases h with ⟨h, h0⟩ | ⟨g', cap, cur, hv, hb, hh, hkc, hcm, hcs, htk⟩
  · injection h with h3 h4 h5
    subst h3 h4 h5
    obtain rfl : m = 0 := by omega
    exact ⟨[], by simp, by simpa using h2⟩
  injection hv with hA hk hc'
  subst hA hc'
  have hkm : (k + m) * size ≤ c * size := Nat.mul_le_mul_right _ hc
  rw [Nat.add_mul] at hkm
  refine ⟨(cur.toList.drop (k * size)).take (m * size), by simp; omega, ?_⟩
  refine h2.step (Fr.refl Nil w) (fun _ _ e => e.elim) ?_ (fun j hj => .inl (by unfold own at hj ⊢; exact hj))
  have hP : w.ownsRow 0 e size (.slice (some ⟨g', 0, none⟩) (k + m) c) (k + m) (xs ++ (cur.toList.drop (k * size)).take (m * size)) := by
    refine ⟨by rw [List.length_append, hxl, List.length_take, List.length_drop, Nat.add_mul]; simp; omega, .inr ⟨g', c, cur, rfl, hb, hh, hc, hcm, hcs, ?_⟩⟩
    rw [Nat.add_mul, List.take_add, htk]
  unfold own
  exact hP
/-- A row's front alone. -/
theorem sep_less {w : World} (hw : Sep w L) (hp : Pick (own e size A k c xs) L L') (hm : m ≤ k) : Sep w (own e size A m c (xs.take (m * size)) :: L') := by
  have h2 := hw.pick hp
  have hO : w.ownsRow 0 e size (.slice A k c) k xs := by
    have := h2.hd
    unfold own at this
    exact this
  obtain ⟨hxl, h⟩ := hO
  have hmk : m * size ≤ k * size := Nat.mul_le_mul_right _ hm
  refine h2.step (Fr.refl Nil w) (fun _ _ e => e.elim) ?_ (fun j hj => .inl (by unfold own at hj ⊢; exact hj))
  have hP : w.ownsRow 0 e size (.slice A m c) m (xs.take (m * size)) := by
    rcases h with ⟨h, h0⟩ | ⟨g', cap, cur, hv, hb, hh, hkc, hcm, hcs, htk⟩
    · injection h with h3 h4 h5
      subst h3 h4 h5
      obtain rfl : m = 0 := by omega
      exact ⟨by simp, .inl ⟨rfl, rfl⟩⟩
    · injection hv with hA hk hc'
      subst hA hc'
      exact ⟨by rw [List.length_take]; omega, .inr ⟨g', c, cur, rfl, hb, hh, by omega, hcm, hcs, by rw [← htk, List.take_take, Nat.min_eq_left (by omega)]⟩⟩
  unfold own
  exact hP
theorem sl_more (hp : Pick (own e size A k c xs) L L') (hc : k + m ≤ c) (h : ∀ ext : List Value, ext.length = m * size → SL P ops Q rest n l (own e size A (k + m) c (xs ++ ext) :: L')) : SL P ops Q rest n l L := sl_of fun w hw => by
  obtain ⟨ext, h1, h2⟩ := sep_more hw hp hc
  exact (h ext h1).to h2
theorem sl_less (m : Nat) (hp : Pick (own e size A k c xs) L L') (hm : m ≤ k) (h : SL P ops Q rest n l (own e size A m c (xs.take (m * size)) :: L')) : SL P ops Q rest n l L := sl_of fun w hw => h.to (sep_less hw hp hm)

/-- A literal of elements. -/
theorem sl_build {parts : List (Nat × Operand)} {ps : List (Nat × Value)} {cells : List Value} (hp : evp l parts = some ps) (hrun : ∀ W, (Instr.buildSlice t k ps.toArray).run P W = .ok (.slice (some ⟨W.heap.size, 0, none⟩) k k) (W.alloc (.cells cells.toArray e))) (hsz : cells.length = k * size) (hk : k ≤ maxLen) (hd : Nat.blt d n = true)
    (h : ∀ g, SL P ops Q rest n ((d, .slice (some ⟨g, 0, none⟩) k k) :: l) (own e size (some ⟨g, 0, none⟩) k k cells :: L)) : SL P ops Q (⟨some d, .buildSlice t k parts.toArray, ty, pos, after, none⟩ :: rest) n l L := sl_of fun w hw =>
  wl_new (ru_buildSlice hp hrun) hd fun w' hF hS hB => (h w.heap.size).to (hw.new hF (by
    have hP : w'.ownsRow 0 e size (.slice (some ⟨w.heap.size, 0, none⟩) k k) k cells := ⟨hsz, .inr ⟨_, _, _, rfl, Nat.zero_le _, hB, Nat.le_refl _, hk, by simpa using hsz, by rw [List.toList_toArray, ← hsz, List.take_length]⟩⟩
    unfold own
    exact hP) (fun j hj => by
    unfold own at hj
    have hj' : some w.heap.size = some j := hj
    exact Nat.le_of_eq (Option.some.inj hj')))
theorem sd_build {S : World → Prop} {need : Nat → Bool} {fuel : Nat} {listed : Array Bool} (j : Nat) {parts : List (Nat × Operand)} {ps : List (Nat × Value)} {cells : List Value} (hrd : Region.ready .any ops listed = [j]) (ho : ops[j]? = some ⟨some d, .buildSlice t k parts.toArray, ty, pos, after, none⟩)
    (hp : evp l parts = some ps) (hrun : ∀ W, (Instr.buildSlice t k ps.toArray).run P W = .ok (.slice (some ⟨W.heap.size, 0, none⟩) k k) (W.alloc (.cells cells.toArray e))) (hsz : cells.length = k * size) (hk : k ≤ maxLen) (hd : Nat.blt d n = true)
    (hS : need j = true → ∀ g w, Sep w (own e size (some ⟨g, 0, none⟩) k k cells :: L) → S w)
    (h : ∀ g, SD P ops Q S need fuel (listed.setIfInBounds j true) n ((d, .slice (some ⟨g, 0, none⟩) k k) :: l) (own e size (some ⟨g, 0, none⟩) k k cells :: L)) : SD P ops Q S need (fuel + 1) listed n l L := sd_of fun w hw =>
  wd_new j hrd ho (ru_buildSlice hp hrun) hd fun w' hF hsz' hB => by
    have h3 : Sep w' (own e size (some ⟨w.heap.size, 0, none⟩) k k cells :: L) := hw.new hF (by
      have hP : w'.ownsRow 0 e size (.slice (some ⟨w.heap.size, 0, none⟩) k k) k cells := ⟨hsz, .inr ⟨_, _, _, rfl, Nat.zero_le _, hB, Nat.le_refl _, hk, by simpa using hsz, by rw [List.toList_toArray, ← hsz, List.take_length]⟩⟩
      unfold own
      exact hP) (fun j hj => by
      unfold own at hj
      have hj' : some w.heap.size = some j := hj
      exact Nat.le_of_eq (Option.some.inj hj'))
    exact ⟨fun e => hS e _ w' h3, (h w.heap.size).to h3⟩
theorem sa_build {S : World → Prop} {need : Nat → Bool} {fuel : Nat} {listed : Array Bool} (j : Nat) {parts : List (Nat × Operand)} {ps : List (Nat × Value)} {cells : List Value} (ho : ops[j]? = some ⟨some d, .buildSlice t k parts.toArray, ty, pos, after, none⟩)
    (hp : evp l parts = some ps) (hrun : ∀ W, (Instr.buildSlice t k ps.toArray).run P W = .ok (.slice (some ⟨W.heap.size, 0, none⟩) k k) (W.alloc (.cells cells.toArray e))) (hsz : cells.length = k * size) (hk : k ≤ maxLen) (hd : Nat.blt d n = true)
    (hS : need j = true → ∀ g w, Sep w (own e size (some ⟨g, 0, none⟩) k k cells :: L) → S w)
    (h : ∀ g, SD P ops Q S need fuel (listed.setIfInBounds j true) n ((d, .slice (some ⟨g, 0, none⟩) k k) :: l) (own e size (some ⟨g, 0, none⟩) k k cells :: L)) : SA P ops Q S need fuel listed n l L j := sa_of fun w hw =>
  wa_new j ho (ru_buildSlice hp hrun) hd fun w' hF hsz' hB => by
    have h3 : Sep w' (own e size (some ⟨w.heap.size, 0, none⟩) k k cells :: L) := hw.new hF (by
      have hP : w'.ownsRow 0 e size (.slice (some ⟨w.heap.size, 0, none⟩) k k) k cells := ⟨hsz, .inr ⟨_, _, _, rfl, Nat.zero_le _, hB, Nat.le_refl _, hk, by simpa using hsz, by rw [List.toList_toArray, ← hsz, List.take_length]⟩⟩
      unfold own
      exact hP) (fun j hj => by
      unfold own at hj
      have hj' : some w.heap.size = some j := hj
      exact Nat.le_of_eq (Option.some.inj hj'))
    exact ⟨fun e => hS e _ w' h3, (h w.heap.size).to h3⟩
/-- []T{}. -/
theorem sl_build0 (ht : P.underlying t = some (.slice e)) (hrun : ∀ W, (Instr.buildSlice t 0 #[]).run P W = .ok (.slice (some ⟨W.heap.size, 0, none⟩) 0 0) (W.alloc (.cells #[] e))) (hd : Nat.blt d n = true)
    (h : ∀ g, SL P ops Q rest n ((d, .slice (some ⟨g, 0, none⟩) 0 0) :: l) (own e size (some ⟨g, 0, none⟩) 0 0 [] :: L)) : SL P ops Q (⟨some d, .buildSlice t 0 #[], ty, pos, after, none⟩ :: rest) n l L :=
  sl_build (parts := []) (ps := []) (cells := []) rfl hrun (by simp) (by simp [maxLen]) hd h
/-- make. -/
theorem sl_make {i : TypeInfo} {kl kc : IntKind} {lo : Operand} (hx : ev l x = some (.int kl k)) (hy : ev l y = some (.int kc c)) (ht : P.underlying t = some (.slice e)) (hi : (P.info? e).map (fun i => (i.zero, i.size, i.bytes)) = some (some z, size, bytes)) (hkc : k ≤ c) (hby : bytes * c ≤ 281474976710656) (hcm : c ≤ maxLen) (hd : Nat.blt d n = true)
    (h : ∀ g, SL P ops Q rest n ((d, .slice (some ⟨g, 0, none⟩) k c) :: l) (own e size (some ⟨g, 0, none⟩) k c ((madeCells z.cells (c * size)).toList.take (k * size)) :: L)) : SL P ops Q (⟨some d, .makeSlice t x y, ty, pos, after, none⟩ :: rest) n l L := sl_of fun w hw => by
  obtain ⟨i, hi0, hz0, hz1, hz2⟩ := info_parts hi
  subst hz1 hz2
  have hb' : (i.bytes : Int) * (c : Int) ≤ 281474976710656 := by
    have h : ((i.bytes * c : Nat) : Int) ≤ 281474976710656 := by omega
    rwa [Int.natCast_mul] at h
  have h63 : (c : Int) ≤ 9223372036854775807 := by
    have h := hcm
    simp [maxLen] at h
    omega
  refine wl_new (v := .slice (some ⟨w.heap.size, 0, none⟩) k c) (cs := madeCells z.cells (c * i.size)) (t := e) (by
    unfold Ru
    intro a _ _ _ _ hs
    have hr := run_make (P := P) w t e i z ht hi0 hz0 kl kc k c (by omega) (by omega) hb' h63
    simp only [Int.toNat_natCast] at hr
    simp only [execOp, hs.ev hx, hs.ev hy]
    simp [hr]) hd fun w' hF hS hB => (h w.heap.size).to (hw.new hF (by
    have hP : w'.ownsRow 0 e i.size (.slice (some ⟨w.heap.size, 0, none⟩) k c) k ((madeCells z.cells (c * i.size)).toList.take (k * i.size)) := ⟨by
      have h1 := Nat.mul_le_mul_right i.size hkc
      rw [List.length_take, Array.length_toList, size_madeCells, Nat.min_eq_left h1], .inr ⟨_, _, _, rfl, Nat.zero_le _, hB, hkc, hcm, size_madeCells _ _, rfl⟩⟩
    unfold own
    exact hP) (fun j hj => by
    unfold own at hj
    have hj' : some w.heap.size = some j := hj
    exact Nat.le_of_eq (Option.some.inj hj')))
theorem se_ret_ct {fn : Func} {α : Type} {φ : α → Prop} {vv : α → Value} {H : α → List Fa} {tp u : Nat} {v2 : Value} {td : TypeDesc} {csx : List Value} (x : α) (hφ : φ x) (hr : fn.results = #[.cell tp ty, .tmp u]) (hv : lk l tp = some (.pointer (some ⟨g, 0, none⟩))) (hb : At (blk g t' csx) L) (hu : P.underlying ty = some td) (hd' : (match td with | .struct _ | .array _ _ => true | _ => false) = true) (hi : szOf P ty = some csx.length)
    (hw2 : lk l u = some v2) (he : vv x = .tuple #[.agg csx.toArray, v2]) (hs : Sub L (H x)) : SE (bodyPost P fn (Ret φ vv H)) .ret n l L := se_of fun w hw => WE.mk fun a hs' => by
  refine bodyPost_ret (v := vv x) ?_ hs'.df ⟨x, hφ, rfl, hw.sub hs⟩
  rw [results_cell_tmp hr, hs'.get hv, hs'.get hw2, he]
  have hB : Blk w g t' csx.toArray := by
    have := hw.at hb
    unfold blk at this
    exact this
  have hl := run_loadVar_at (P := P) w ⟨g, 0, none⟩ ty csx td (fun j v hj => by
    rw [add_none, Nat.zero_add, hB.cell]
    simpa using hj) hu hd' (by rw [← szOf_eq]; exact hi)
  simp [asAddr, hl]
end

end Go.Proofs.YtfnjeojaahnlfaaDoor
