/- Several texts of one claim, one behind the other (Ap, App, Sm, Sa, Fj, Cl, Reg4). -/
import Derived.Test.YtidphdlhghgglaaB06
import Derived.Test.YtidphdlhghgglaaB05
import Derived.Deep.AppendSrc
import Derived.Laws.FloatArith
set_option linter.unusedVariables false
/- Short words for what is found by looking: a premise that is filled in by the steps written here once. No program is in sight. -/
namespace Go.Proofs.Ytidphdlhghgglaa
open Go.RowKit
theorem at_ {φ : Prop} (h : φ := by (repeat (first | exact At.here | assumption | refine At.there ?_)); first | done | fail) : φ := h
theorem pick_ {φ : Prop} (h : φ := by (repeat (first | exact Pick.here | apply Pick.there)); first | done | fail) : φ := h
theorem sub_ {φ : Prop} (h : φ := by (repeat (first | exact Sub.refl | exact Sub.nil | (apply Sub.cons; (repeat (first | exact Pick.here | apply Pick.there)); show Sub _ _) | apply Sub.skip)); first | done | fail) : φ := h
theorem has_ {φ : Prop} (h : φ := by (repeat (first | exact has_nil | refine has_cons rfl ?_)); first | done | fail) : φ := h
theorem nop_ {φ : Prop} (h : φ := by repeat (first | exact nop_body | refine nop_then ?_ | refine nop_block ?_)) : φ := h
inductive AtAll (L : List Fa) : List Fa → Prop
  | nil : AtAll L []
  | cons {f : Fa} {r : List Fa} (h : At f L) (hr : AtAll L r) : AtAll L (f :: r)
theorem AtAll.all {w : World} {L r : List Fa} (hw : Sep w L) (h : AtAll L r) : AllP w r := by
  induction h with
  | nil => exact AllP.nil
  | cons h _ ih => exact AllP.cons (hw.at h) ih
theorem all_ {w : World} {L r : List Fa} (hw : Sep w L) (h : AtAll L r := by (repeat (first | exact AtAll.nil | refine AtAll.cons (by exact at_) ?_)); first | done | fail) : AllP w r := h.all hw
theorem gd_ {φ : Prop} (h : φ := by first | exact GdOk.none | exact GdOk.some rfl rfl rfl) : φ := h
structure Hide (p : Prop) : Prop where
  out : p
theorem so_ {φ ψ : Prop} (k : ψ) (h : Hide ψ → φ := by (intro k; (first | refine sc_seq ?_ | refine sc_region ?_ | refine sl_nil ?_ | refine se_seq ?_ | refine sc_cond rfl (by constructor) ?_ | refine sc_skip ?_ | refine sc_block ?_ | refine se_blk (by first | exact .n | exact .h | exact .m rfl | exact .r | exact .p) ?_ | refine sc_exit ?_ | refine se_pass (by constructor) ?_ | refine sc_ret ?_); exact k.out)) : φ := h ⟨k⟩
section
variable {P : Program} {ops : Array Oper} {Q : Exit → Act → World → Prop} {n : Nat} {l : Env} {L L1 : List Fa} {rest : List Oper} {d : Tmp} {ty : TypeId} {pos : String} {after : Array Edge} {x : Operand} {f : FuncId} {cap : List Value} {zs : List Operand} {vs : List Value} {ats : Array TypeId} {α : Type} {φ : α → Prop} {vv : α → Value} {H : α → List Fa} {args : Array Value} {dst : Option Tmp}
/-- A call. -/
theorem fcall (hc : Fn P f args L1 (Ret φ vv H)) (h : ∀ a, φ a → SL P ops Q rest n ((d, vv a) :: l) (H a)) (hx : ev l x = some (.func (.func f) #[] cap.toArray) := by rfl) (hv : evs l zs = some vs := by rfl) (ha : (vs ++ cap).toArray = args := by rfl) (hf : callable P f = true := by kernel_rfl) (hd : Nat.blt d n = true := by rfl)
    (hs : Sub L L1 := by (repeat (first | exact Sub.refl | exact Sub.nil | (apply Sub.cons; (repeat (first | exact Pick.here | apply Pick.there)); show Sub _ _) | apply Sub.skip)); first | done | fail) : SL P ops Q (⟨some d, .call { callee := .value x, args := zs.toArray, argTypes := ats }, ty, pos, after, none⟩ :: rest) n l L := by
  subst ha
  exact sl_call hx hv hf hd hs hc h
theorem fcall0 (hc : Fn P f args L1 (Ret φ vv H)) (h : ∀ a, φ a → SL P ops Q rest n l (H a)) (hx : ev l x = some (.func (.func f) #[] cap.toArray) := by rfl) (hv : evs l zs = some vs := by rfl) (ha : (vs ++ cap).toArray = args := by rfl) (hf : callable P f = true := by kernel_rfl)
    (hs : Sub L L1 := by (repeat (first | exact Sub.refl | exact Sub.nil | (apply Sub.cons; (repeat (first | exact Pick.here | apply Pick.there)); show Sub _ _) | apply Sub.skip)); first | done | fail) : SL P ops Q (⟨none, .call { callee := .value x, args := zs.toArray, argTypes := ats }, ty, pos, after, none⟩ :: rest) n l L := by
  subst ha
  exact sl_call0 hx hv hf hs hc h
theorem fdie {cc : α → List PanicEntry} (hc : Fn P f args L1 (Pan φ cc H)) (h : ∀ a, φ a → SE Q (.panic (cc a)) n l (H a)) (hx : ev l x = some (.func (.func f) #[] cap.toArray) := by rfl) (hv : evs l zs = some vs := by rfl) (ha : (vs ++ cap).toArray = args := by rfl) (hf : callable P f = true := by kernel_rfl)
    (hs : Sub L L1 := by (repeat (first | exact Sub.refl | exact Sub.nil | (apply Sub.cons; (repeat (first | exact Pick.here | apply Pick.there)); show Sub _ _) | apply Sub.skip)); first | done | fail) : SL P ops Q (⟨dst, .call { callee := .value x, args := zs.toArray, argTypes := ats }, ty, pos, after, none⟩ :: rest) n l L := by
  subst ha
  exact sl_die hx hv hf hs hc h
theorem fquiet {q : Act → Prop} {φ : Unit → Prop} {vv : Unit → Value} (hc : Fn P f args L (Ret φ vv (fun _ => L))) (h : WQ P ops (In L) q rest n ((d, vv ()) :: l)) (hx : ev l x = some (.func (.func f) #[] cap.toArray) := by rfl) (hv : evs l zs = some vs := by rfl) (ha : (vs ++ cap).toArray = args := by rfl) (hf : callable P f = true := by kernel_rfl) (hd : Nat.blt d n = true := by rfl) : WQ P ops (In L) q (⟨some d, .call { callee := .value x, args := zs.toArray, argTypes := ats }, ty, pos, after, none⟩ :: rest) n l := by
  subst ha
  exact WQ_call hx hv hf hd hc h
end
end Go.Proofs.Ytidphdlhghgglaa
/- append where there is no room, and of nothing. No program is in sight. -/
namespace Go.Proofs.Ytidphdlhghgglaa
open Go.RowKit
section
variable {P : Program} {ops : Array Oper} {Q : Exit → Act → World → Prop} {n : Nat} {l : Env} {L L' : List Fa} {rest : List Oper} {d : Tmp} {ty t t' e : TypeId} {pos : String} {after : Array Edge} {x y : Operand} {k m c cb size bytes : Nat} {A B : Option Addr} {xs ys : List Value} {z : Value}
/-- A slice whose room is its length: a new row. -/
theorem sl_app_full (hx : ev l x = some (.slice A k k)) (hr0 : Vw L (fun w => Reads w size A k xs)) (hk : 0 < k) (hy : ev l y = some (.slice B m cb)) (hr : Vw L (fun w => Reads w size B m ys)) (hm : 0 < m) (ht : P.underlying t = some (.slice e)) (hi : (P.info? e).map (fun i => (i.zero, i.size, i.bytes)) = some (some z, size, bytes)) (hzs : z.cells.size = size)
    (hd : Nat.blt d n = true) (h63 : k + m ≤ maxLen) (hby : (k + m) * bytes ≤ 140737488355328)
    (h : ∀ g c', SL P ops Q rest n ((d, .slice (some ⟨g, 0, none⟩) (k + m) c') :: l) (own e size (some ⟨g, 0, none⟩) (k + m) c' (xs ++ ys) :: L)) : SL P ops Q (⟨some d, .call { callee := .builtin .append, args := #[x, y], argTypes := #[t, t] }, ty, pos, after, none⟩ :: rest) n l L := sl_of fun w hw => by
  obtain ⟨i, hi0, hz0, hz1, hz2⟩ := info_parts hi
  subst hz1 hz2
  have hR0 := hr0 w hw
  have hR := hr w hw
  obtain ⟨ad, rfl, hc0⟩ := hR0.2 hk
  obtain ⟨bd, rfl, hc1⟩ := hR.2 hm
  have h63' : ((k + m : Nat) : Int) ≤ 9223372036854775807 := by
    have := h63
    simp [maxLen] at this
    omega
  have hrun := run_append_grow (P := P) (w := w) t ty e i z ht hi0 hz0 ad k k xs hR0.1 hc0 bd m cb ys hR.1 hc1 (by omega) h63' (growslice_fits (by omega) hby)
  have hge := grownCap_ge w (k + m) k e
  have hle := grownCap_le_maxLen w (k + m) k e h63
  refine wl_run (v := .slice (some ⟨w.heap.size, 0, none⟩) (k + m) (grownCap w (k + m) k e)) (w' := w.drew.alloc (.cells (xs.toArray ++ ys.toArray ++ Builtin.zeroCells z.cells (grownCap w (k + m) k e - (k + m))) e)) ?_ hd ((h w.heap.size _).to (hw.new ((Fr.refl Nil w).drew.alloc _) ?_ (fun j hj => ?_)))
  · unfold Ru
    intro a _ _ _ _ hs
    simp only [execOp, resolve, List.map_toArray, List.map_cons, List.map_nil, hs.ev hx, hs.ev hy]
    simp only [invoke, builtin, Sem.run_bind, Sem.run_pure, Result.andThen_ok, hrun]
  · have h0 := hR0.1
    have h1 := hR.1
    have h2 : (grownCap w (k + m) k e - (k + m)) * i.size = grownCap w (k + m) k e * i.size - (k + m) * i.size := Nat.sub_mul _ _ _
    have h3 : (k + m) * i.size ≤ grownCap w (k + m) k e * i.size := Nat.mul_le_mul_right _ hge
    have h4 : (k + m) * i.size = k * i.size + m * i.size := Nat.add_mul _ _ _
    refine own_mk (own_close (cur := xs.toArray ++ ys.toArray ++ Builtin.zeroCells z.cells (grownCap w (k + m) k e - (k + m))) (Blk.new w.drew e _) hge hle ?_ ?_ ?_)
    · simp only [Array.size_append, List.size_toArray, Builtin.zeroCells, Array.size_map, Array.size_range, hzs]
      omega
    · simp only [Array.toList_append, List.toList_toArray]
      rw [List.take_left']
      rw [List.length_append]
      omega
    · rw [List.length_append]
      omega
  · rw [own_F] at hj
    exact Nat.le_of_eq (Option.some.inj hj)
/-- Nothing is appended. -/
theorem sl_app_none (hx : ev l x = some (.slice A k c)) (hkc : k ≤ c) (hy : ev l y = some (.slice B 0 cb)) (ht : P.underlying t = some (.slice e)) (hi : (P.info? e).map (fun i => (i.zero, i.size, i.bytes)) = some (some z, size, bytes)) (hd : Nat.blt d n = true)
    (h : SL P ops Q rest n ((d, .slice A k c) :: l) L) : SL P ops Q (⟨some d, .call { callee := .builtin .append, args := #[x, y], argTypes := #[t, t] }, ty, pos, after, none⟩ :: rest) n l L := sl_of fun w hw => by
  obtain ⟨i, hi0, hz0, hz1, hz2⟩ := info_parts hi
  subst hz1 hz2
  have hrun : (Builtin.append_ #[t, t] ty #[.slice A k c, .slice B 0 cb]).run P w = .ok (.slice A k c) w := by
    have h2 : ∀ W : World, (Builtin.firstCells i.size 0 (.slice B 0 cb)).run P W = .ok #[] W := fun W => by
      cases B with
      | none => simp [Builtin.firstCells]
      | some b => simpa using run_firstCells_some (P := P) W i.size 0 b 0 cb [] (by simp) (by simp)
    cases A with
    | none => simp [Builtin.append_, run_underlying ht, sizeOf, typeInfo, hi0, Builtin.lenOf, hkc, h2]
    | some a => simp [Builtin.append_, run_underlying ht, sizeOf, typeInfo, hi0, Builtin.lenOf, hkc, h2, storeCells]
  refine wl_run (v := .slice A k c) (w' := w) ?_ hd (h.to hw)
  unfold Ru
  intro a _ _ _ _ hs
  simp only [execOp, resolve, List.map_toArray, List.map_cons, List.map_nil, hs.ev hx, hs.ev hy]
  simp only [invoke, builtin, Sem.run_bind, Sem.run_pure, Result.andThen_ok, hrun]
/-- A slice whose room is its length, read only: what there is behind it is a new row, or nothing new. -/
theorem sl_app_rd {L0 : List Fa} (hx : ev l x = some (.slice A k k)) (hr0 : Vw L0 (fun w => Reads w size A k xs)) (hs0 : Sub L L0) (hy : ev l y = some (.slice B m cb)) (hr : Vw L (fun w => Reads w size B m ys)) (h1 : ∀ u ∈ ys, u.oneCell' = true) (ht : P.underlying t = some (.slice e)) (hi : (P.info? e).map (fun i => (i.zero, i.size, i.bytes)) = some (some z, size, bytes)) (hzs : z.cells.size = size) (hsz : 0 < size)
    (hd : Nat.blt d n = true) (h63 : k + m ≤ maxLen) (hby : (k + m) * bytes ≤ 140737488355328)
    (h : ∀ A' c' F, k + m ≤ c' → Vw (F :: L0) (fun w => Reads w size A' (k + m) (xs ++ ys)) → SL P ops Q rest n ((d, .slice A' (k + m) c') :: l) (F :: L)) : SL P ops Q (⟨some d, .call { callee := .builtin .append, args := #[x, y], argTypes := #[t, t] }, ty, pos, after, none⟩ :: rest) n l L := by
  by_cases hm : m = 0
  · subst hm
    refine sl_app_none hx (Nat.le_refl _) hy ht hi hd ?_
    refine sl_know (φ := ys = []) (fun w hw => List.eq_nil_of_length_eq_zero (by have := (hr w hw).1; omega)) ?_
    rintro rfl
    have h2 := h A k (star []) (Nat.le_refl _) (fun w hw => by rw [List.append_nil]; exact hr0 w hw.tl)
    exact sl_sub (.free (fun w => by unfold star; exact (Sep.start w).sub Sub.nil) (fun j hj => by unfold star at hj; exact foot_nil hj) .refl) h2
  by_cases hk : k = 0
  · subst hk
    have hnew : ∀ L0 : List Fa, Vw L0 (fun w => Reads w size B m ys) → (∀ A' c', SL P ops Q rest n ((d, .slice A' m c') :: l) (own e size A' m c' ys :: L0)) → A = none → SL P ops Q (⟨some d, .call { callee := .builtin .append, args := #[x, y], argTypes := #[t, t] }, ty, pos, after, none⟩ :: rest) n l L0 := fun L0 hr' hk' hA => by
      subst hA
      exact sl_app_nil hx hy hr' h1 ht hi hzs hsz hd (by omega) (by simpa using hby) hk'
    refine sl_know (φ := xs = []) (fun w hw => List.eq_nil_of_length_eq_zero (by have := (hr0 w (hw.sub hs0)).1; omega)) ?_
    rintro rfl
    simp only [Nat.zero_add, List.nil_append] at h h63 hby
    cases A with
    | none =>
      refine hnew L hr (fun A' c' => ?_) rfl
      refine sl_know (fun w hw => (own_len (e := e) (size := size) (A := A') hw .here).2) ?_
      rintro ⟨l1, -⟩
      exact h A' c' _ l1 (Vw.of_own .here)
    | some ad =>
      refine sl_of fun w hw => ?_
      obtain ⟨i, hi0, hz0, hz1, hz2⟩ := info_parts hi
      subst hz1 hz2
      have hR := hr w hw
      obtain ⟨bd, rfl, hc1⟩ := hR.2 (by omega)
      have h63' : ((0 + m : Nat) : Int) ≤ 9223372036854775807 := by
        have := h63
        simp [maxLen] at this
        omega
      have hrun := run_append_grow (P := P) (w := w) t ty e i z ht hi0 hz0 ad 0 0 [] (by simp) (fun j v hj => by simp at hj) bd m cb ys hR.1 hc1 (by omega) h63' (growslice_fits (by omega) (by rw [Nat.zero_add]; exact hby))
      rw [Nat.zero_add] at hrun
      have hge := grownCap_ge w m 0 e
      have hle := grownCap_le_maxLen w m 0 e h63
      refine wl_run (v := .slice (some ⟨w.heap.size, 0, none⟩) m (grownCap w m 0 e)) (w' := w.drew.alloc (.cells (([] : List Value).toArray ++ ys.toArray ++ Builtin.zeroCells z.cells (grownCap w m 0 e - m)) e)) ?_ hd ((h (some ⟨w.heap.size, 0, none⟩) _ (own e i.size (some ⟨w.heap.size, 0, none⟩) m (grownCap w m 0 e) ys) hge (Vw.of_own .here)).to (hw.new ((Fr.refl Nil w).drew.alloc _) ?_ (fun j hj => ?_)))
      · unfold Ru
        intro a _ _ _ _ hs
        simp only [execOp, resolve, List.map_toArray, List.map_cons, List.map_nil, hs.ev hx, hs.ev hy]
        simp only [invoke, builtin, Sem.run_bind, Sem.run_pure, Result.andThen_ok, hrun]
      · have h1 := hR.1
        have h2 : (grownCap w m 0 e - m) * i.size = grownCap w m 0 e * i.size - m * i.size := Nat.sub_mul _ _ _
        have h3 : m * i.size ≤ grownCap w m 0 e * i.size := Nat.mul_le_mul_right _ hge
        refine own_mk (own_close (cur := ([] : List Value).toArray ++ ys.toArray ++ Builtin.zeroCells z.cells (grownCap w m 0 e - m)) (Blk.new w.drew e _) hge hle ?_ ?_ ?_)
        · simp only [Array.size_append, List.size_toArray, Builtin.zeroCells, Array.size_map, Array.size_range, hzs, List.length_nil]
          omega
        · simp only [Array.toList_append, List.toList_toArray, List.nil_append]
          rw [List.take_left']
          omega
        · omega
      · rw [own_F] at hj
        exact Nat.le_of_eq (Option.some.inj hj)
  · refine sl_app_full hx (hr0.mono hs0) (by omega) hy hr (by omega) ht hi hzs hd h63 hby (fun g c' => ?_)
    refine sl_know (fun w hw => (own_len (e := e) (size := size) (A := some ⟨g, 0, none⟩) hw .here).2) ?_
    rintro ⟨l1, -⟩
    exact h _ c' _ l1 (Vw.of_own .here)
end
end Go.Proofs.Ytidphdlhghgglaa
/- Summarize: over facts. -/
namespace Go.Proofs.Ytidphdlhghgglaa
open Go.RowKit
attribute [local irreducible] Go.Calls Go.Exit.then Go.Exit.inBlock Go.bodyPost Go.Code.wp Go.wpList
theorem fn_same {P : Program} {f : FuncId} {args : Array Value} {v : Value} {K : List Fa} (h : ∀ W, Calls P f args W fun e w' => e = .returned v ∧ w' = W) : Fn P f args K (Ret (fun _ : Unit => True) (fun _ => v) (fun _ => K)) := by
  unfold Fn
  intro w hw
  refine (h w).mono ?_
  rintro e w' ⟨rfl, rfl⟩
  exact ⟨(), trivial, rfl, hw⟩
def fl (x : Nat) : Value := .float .f64 x
theorem nan_c (W : World) : Calls Try.prog 13 #[] W fun e w' => e = .returned (.float .f64 9221120237041090561) ∧ w' = W := by
  have h := fun w => run_frombits 9221120237041090561 w
  go_enter Try.func13, Try.ntmps13
  go_wp2
  go_ret
  exact ⟨rfl, rfl⟩
def numsOf : List Nat → List Fp
  | [] => []
  | x :: r => if h : fnan x = false ∧ x < 18446744073709551616 then ⟨x, h.1, h.2⟩ :: numsOf r else numsOf r
theorem nums_cons (x : Nat) (r : List Nat) : numsOf (x :: r) = if h : fnan x = false ∧ x < 18446744073709551616 then ⟨x, h.1, h.2⟩ :: numsOf r else numsOf r := rfl
theorem nums_app : ∀ a b : List Nat, numsOf (a ++ b) = numsOf a ++ numsOf b
  | [], b => rfl
  | x :: r, b => by
    rw [List.cons_append, nums_cons, nums_cons, nums_app r b]
    split <;> rfl
theorem nums_len : ∀ l : List Nat, (numsOf l).length ≤ l.length
  | [] => Nat.le_refl _
  | x :: r => by
    have := nums_len r
    unfold numsOf
    split
    · simp only [List.length_cons]; omega
    · simp only [List.length_cons]; omega
/-- What is said of numbers in their order. -/
def summC (d : List Fp) : List Value := [.int .i64 d.length, fl ((d[0]?.map Fp.x).getD 9221120237041090561), fl ((d[d.length - 1]?.map Fp.x).getD 9221120237041090561), fl ((d[(d.length - 1) / 2]?.map Fp.x).getD 9221120237041090561)]
theorem summC_ne {d : List Fp} (h : d.length ≠ 0) : summC d = [.int .i64 d.length, .float .f64 d[0].x, .float .f64 d[d.length - 1].x, .float .f64 d[(d.length - 1) / 2].x] := by
  unfold summC
  rw [List.getElem?_eq_getElem (by omega), List.getElem?_eq_getElem (by omega), List.getElem?_eq_getElem (by omega)]
  rfl
theorem infoF64 : (Try.prog.info? 24).map (fun i => (i.zero, i.size, i.bytes)) = some (some (.float .f64 0), 1, 8) := by kernel_rfl
theorem fl_one {x : Nat} : ∀ u ∈ [Value.float .f64 x], u.oneCell' = true := by
  intro u hu
  rw [List.mem_singleton] at hu
  subst hu
  rfl
structure Sg where
  j : Nat
  A : Option Addr
  c : Nat
theorem summ_one {k : IntKind} {n : Int} {a b c : Nat} : ∀ u ∈ [Value.int k n, .float .f64 a, .float .f64 b, .float .f64 c], u.oneCell' = true := by
  intro u hu
  simp only [List.mem_cons, List.not_mem_nil, or_false] at hu
  rcases hu with rfl | rfl | rfl | rfl <;> rfl
theorem nth_Sm {φ : Prop} (h : φ := by (first | rfl | assumption)) : φ := h
theorem mid_Sm {φ : Prop} (h : φ := by (first | exact Mid.all | exact Mid.all | exact Mid.head)) : φ := h
theorem sz_Sm {φ : Prop} (h : φ := by (first | rfl | (rfl; first | done | fail))) : φ := h
theorem one_Sm {φ : Prop} (h : φ := by (first | assumption | exact first | exact summ_one | exact one_bytes _ | (simp only [List.mem_cons, List.not_mem_nil, or_false, forall_eq_or_imp, forall_eq]; decide) | exact one_bytes _)) : φ := h
theorem set_Sm {φ : Prop} (h : φ := by (first | (fail) | ((repeat (first | exact SetAt.here | apply SetAt.there)); first | done | fail))) : φ := h
theorem cl_Sm {φ : Prop} (h : φ := by first | rfl | exact .t | exact .f | exact .t (by omega) | exact .f (by omega) | exact .u | exact .i (by (first | exact .t (by omega) | exact .f (by omega) | exact .u | exact .i (by omega) | exact .v (by omega) | exact .b (by omega) | exact .w | rfl | omega)) | exact .v (by omega) | exact .b (by omega) | exact .q (by omega) | exact .w | exact .b (by exact at_) rfl (by exact nth_Sm) | exact .w (by exact at_) rfl rfl (by exact sz_Sm) | exact .s (by exact at_) (by exact mid_Sm) rfl rfl (by exact sz_Sm) | exact .z rfl rfl ⟨by kernel_rfl⟩ | exact .b rfl rfl ⟨by kernel_rfl⟩ | exact .a rfl rfl ⟨by kernel_rfl⟩ | exact .o rfl | exact .s | exact .n | exact .p rfl | exact .q rfl | exact .c rfl | exact .d rfl | exact .n rfl rfl (by omega) | exact .a rfl rfl (by omega) | exact .p rfl rfl (by omega) (by omega) | exact .y rfl rfl (by omega) (by omega) | exact .o (by exact at_) (by omega) rfl (by exact nth_Sm) | exact .m (by exact at_) (by omega) (by exact mid_Sm) rfl rfl (by exact sz_Sm) | exact .mlen (by exact at_) rfl | exact .t (by exact at_) rfl rfl (by first | exact True.intro | rfl) (by assumption) | exact .f (by exact at_) rfl rfl (by first | exact True.intro | rfl) (by assumption) rfl | exact .t1 (by exact at_) rfl rfl (by first | exact True.intro | rfl) (by assumption) | exact .f1 (by exact at_) rfl rfl (by first | exact True.intro | rfl) (by assumption) rfl | exact .r rfl rfl (by omega) (by omega) (by exact nth_Sm) rfl | exact .s rfl (by omega) (by assumption) | exact at_ | assumption | exact .r rfl rfl | exact .h rfl rfl rfl (by omega) | exact .l rfl rfl rfl (by omega) (by omega) | exact .g rfl rfl rfl rfl (by omega) (by omega) | exact .h rfl rfl (toN_ (by omega)) (by omega) | exact .l rfl rfl (toN_ (by omega)) (by omega) (by omega) | exact .g rfl rfl (toN_ (by omega)) (toN_ (by omega)) (by omega) (by omega) | exact .o (by decide) | exact .f (by decide) | exact .n (by omega) (by first | decide | (show _ ≤ ((64 : Nat) : Int); omega)) | (constructor; (repeat (first | exact .t (by omega) | exact .f (by omega) | exact .u | exact .i (by omega) | exact .v (by omega) | exact .b (by omega) | exact .w | rfl | omega)); first | done | fail) | omega | (show _ ≤ ((64 : Nat) : Int); omega)) : φ := h
theorem pv_Sm {φ : Prop} (h : φ := by constructor; (repeat exact cl_Sm); first | done | fail) : φ := h
theorem su_Sm {φ ψ : Prop} (k : ψ) (h : Hide ψ → φ := by (intro k; (first | refine sl_pu (PuI.sep (by exact pv_Sm)) rfl ?_ | refine sl_yes rfl rfl ?_ | refine sl_no rfl rfl rfl ?_ | refine sl_off rfl rfl rfl ?_ | (fail)); exact k.out)) : φ := h ⟨k⟩
theorem rq_Sm {φ ψ : Prop} (k : ψ) (h : Hide ψ → φ := by (intro k; (first | refine wq_pu (PuI.sep (by exact pv_Sm)) rfl ?_ | refine wq_yes rfl rfl ?_ | refine wq_no rfl rfl rfl ?_ | refine wq_off rfl rfl rfl ?_ | (fail)); exact k.out)) : φ := h ⟨k⟩
theorem sto_Sm {φ ψ : Prop} (k : ψ) (h : Hide ψ → φ := by (intro k; (first | refine sl_store rfl (by exact pick_) rfl rfl (by kernel_rfl) (by exact set_Sm) ?_ | refine sl_store_whole rfl (by exact pick_) rfl (by exact sz_Sm) (by exact sz_Sm) (by exact one_Sm) ?_); exact k.out)) : φ := h ⟨k⟩
theorem go_Sm {φ ψ : Prop} (k : ψ) (h : Hide ψ → φ := by (intro k; (repeat (first | refine su_Sm ?_ | refine so_ ?_ | refine sto_Sm ?_)); exact k.out)) : φ := h ⟨k⟩
set_option maxRecDepth 100000 in
set_option maxHeartbeats 2000000 in
theorem summ_ok {K : List Fa} {A : Option Addr} {c : Nat} {xs : List Nat} (hr : Vw K (fun w => Reads w 1 A xs.length (xs.map fl))) (hb : ∀ x ∈ xs, x < 18446744073709551616) (hn : xs.length ≤ 4096) :
    Fn Try.prog 10 #[.slice A xs.length c] K (Ret (fun d : List Fp => d.Perm (numsOf xs) ∧ d.Pairwise (fun a b => key a.x ≤ key b.x)) (fun d => .agg (summC d).toArray) (fun _ => K)) := by
  refine fn_enter Try.func10 rfl _ Try.ntmps10 (by simp) [(0, .slice A xs.length c)] (args_of (by simp)) ?_
  refine go_Sm ?_
  refine sl_alloc rfl rfl rfl ?_; intro g2
  refine go_Sm ?_
  refine sc_for (fun p : Sg => [(2, .pointer (some ⟨g2, 0, none⟩)), (3, .slice p.A (numsOf (xs.take p.j)).length p.c), (13, .slice A xs.length c), (14, .int .i64 xs.length), (15, .int .i64 p.j)]) (fun p => own 24 1 p.A (numsOf (xs.take p.j)).length p.c ((numsOf (xs.take p.j)).map Fp.v) :: blk g2 26 [.int .i64 0, .float .f64 0, .float .f64 0, .float .f64 0] :: K) (fun p => p.j ≤ xs.length) (fun p => xs.length - p.j) ⟨0, none, 0⟩ (by exact has_) (Sub.own_nil (by exact sub_)) (Nat.zero_le _) ?_
  rintro ⟨j, A1, c1⟩ hj
  dsimp only at hj ⊢
  by_cases hlt : j < xs.length
  · have hlen := nums_len (xs.take j)
    rw [List.length_take] at hlen
    have htk : xs.take (j + 1) = xs.take j ++ [xs[j]] := List.take_succ_eq_append_getElem hlt
    have hxb := hb _ (List.getElem_mem hlt)
    have hnx : nth (xs.map fl) (j * 1) = some (.float .f64 xs[j]) := by
      rw [nth_eq, Nat.mul_one, List.getElem?_map, List.getElem?_eq_getElem hlt]
      rfl
    refine sc_know (vw_form (L := own 24 1 A1 (numsOf (xs.take j)).length c1 ((numsOf (xs.take j)).map Fp.v) :: blk g2 26 [.int .i64 0, .float .f64 0, .float .f64 0, .float .f64 0] :: K) (hr.mono (by exact sub_)) (by omega)) ?_
    rintro ⟨ad, rfl⟩
    refine go_Sm ?_
    refine sl_pu (pu_ldr (hr.mono (by exact sub_)) (by omega) rfl rfl hnx) rfl ?_
    refine go_Sm ?_
    refine sl_call rfl rfl (by kernel_rfl) rfl Sub.refl (fn_same (isNaN_c _)) ?_
    rintro _ -
    cases hx : fnan xs[j] with
    | true =>
      have hsame : numsOf (xs.take (j + 1)) = numsOf (xs.take j) := by
        rw [htk, nums_app, nums_cons, dif_neg (by rw [hx]; simp)]
        exact List.append_nil _
      refine go_Sm ?_
      refine se_round ⟨j + 1, A1, c1⟩ (by rw [hsame]; exact has_) (by rw [hsame]; exact sub_) hlt (by show xs.length - (j + 1) < xs.length - j; omega)
    | false =>
      have hnew : numsOf (xs.take (j + 1)) = numsOf (xs.take j) ++ [⟨xs[j], hx, hxb⟩] := by
        rw [htk, nums_app, nums_cons, dif_pos ⟨hx, hxb⟩]
        rfl
      refine go_Sm ?_
      refine sl_build (size := 1) (e := 24) (cells := [Value.float .f64 xs[j]]) rfl (fun W => by kernel_rfl) rfl (by decide) rfl ?_
      intro gb
      refine sl_app (A := A1) (k := (numsOf (xs.take j)).length) (c := c1) rfl (by exact pick_) rfl (Vw.of_own (e := 24) (A := some ⟨gb, 0, none⟩) (c := 1) (by exact at_)) fl_one rfl infoF64 (by decide) (by decide) rfl (by unfold maxLen; omega) (by omega) ?_
      intro A2 c2
      rw [show (numsOf (xs.take j)).map Fp.v ++ [Value.float .f64 xs[j]] = (numsOf (xs.take (j + 1))).map Fp.v by rw [hnew, List.map_append]; rfl, show (numsOf (xs.take j)).length + 1 = (numsOf (xs.take (j + 1))).length by rw [hnew, List.length_append]; rfl]
      refine go_Sm ?_
      refine se_round ⟨j + 1, A2, c2⟩ (by exact has_) (by exact sub_) hlt (by show xs.length - (j + 1) < xs.length - j; omega)
  · obtain rfl : j = xs.length := by omega
    rw [List.take_length]
    have hlen := nums_len xs
    refine go_Sm ?_
    refine sl_call rfl rfl (by kernel_rfl) rfl Sub.refl (sortf_ok (by omega)) ?_
    rintro d ⟨hp, hs⟩
    have hdl := hp.length_eq
    rw [← hdl]
    by_cases h0 : d.length = 0
    · obtain rfl : d = [] := List.eq_nil_of_length_eq_zero h0
      refine go_Sm ?_
      refine sl_call rfl rfl (by kernel_rfl) rfl Sub.refl (fn_same nan_c) ?_
      rintro _ -
      refine go_Sm ?_
      refine sl_pu (pu_build (v := .agg #[.int .i64 0, .float .f64 9221120237041090561, .float .f64 9221120237041090561, .float .f64 9221120237041090561]) rfl (fun W => by kernel_rfl)) rfl ?_
      refine go_Sm ?_
      exact se_ret_c (x := []) ⟨hp, .nil⟩ rfl rfl (by exact at_) rfl rfl rfl rfl (by exact sub_)
    · refine sl_form (e := 24) (size := 1) (A := A1) (m := d.length) (by exact at_) (by omega) ?_
      rintro g rfl
      have n0 : nth (d.map Fp.v) (0 * 1) = some (.float .f64 d[0].x) := by
        rw [nth_eq, Nat.zero_mul, List.getElem?_map, List.getElem?_eq_getElem (by omega)]
        rfl
      have n1 : nth (d.map Fp.v) (((d.length : Int) - 1).toNat * 1) = some (.float .f64 d[d.length - 1].x) := by
        rw [nth_eq, Nat.mul_one, show ((d.length : Int) - 1).toNat = d.length - 1 by omega, List.getElem?_map, List.getElem?_eq_getElem (by omega)]
        rfl
      have n2 : nth (d.map Fp.v) ((((d.length : Int) - 1) / 2).toNat * 1) = some (.float .f64 d[(d.length - 1) / 2].x) := by
        rw [nth_eq, Nat.mul_one, show (((d.length : Int) - 1) / 2).toNat = (d.length - 1) / 2 by omega, List.getElem?_map, List.getElem?_eq_getElem (by omega)]
        rfl
      refine go_Sm ?_
      refine sd_drawn (fun W => AllP W [own 24 1 (some ⟨g, 0, none⟩) d.length c1 (d.map Fp.v)]) (fun _ => true) (by kernel_rfl) 17 rfl ?_
      refine sd_yes2 0 rfl (by exact gd_) (by kernel_rfl) (by kernel_rfl) (by exact nop_) (PuI.all (by exact pv_Sm)) rfl (fun w hw => all_ hw) ?_
      refine sd_yes2 1 rfl (by exact gd_) (by kernel_rfl) (by kernel_rfl) (by exact nop_) (PuI.all (by exact pv_Sm)) rfl (fun w hw => all_ hw) ?_
      refine sd_yes2 2 rfl (by exact gd_) (by kernel_rfl) (by kernel_rfl) (by exact nop_) (PuI.all (by exact pv_Sm)) rfl (fun w hw => all_ hw) ?_
      refine sd_yes2 3 rfl (by exact gd_) (by kernel_rfl) (by kernel_rfl) (by exact nop_) (PuI.all (by exact pv_Sm)) rfl (fun w hw => all_ hw) ?_
      refine sd_yes2 4 rfl (by exact gd_) (by kernel_rfl) (by kernel_rfl) (by exact nop_) (PuI.all (by exact pv_Sm)) rfl (fun w hw => all_ hw) ?_
      refine sd_yes2 5 rfl (by exact gd_) (by kernel_rfl) (by kernel_rfl) (by exact nop_) (PuI.all (by exact pv_Sm)) rfl (fun w hw => all_ hw) ?_
      refine sd_yes2 6 rfl (by exact gd_) (by kernel_rfl) (by kernel_rfl) (by exact nop_) (PuI.all (by exact pv_Sm)) rfl (fun w hw => all_ hw) ?_
      refine sd_yes2 7 rfl (by exact gd_) (by kernel_rfl) (by kernel_rfl) (by exact nop_) (PuI.all (by exact pv_Sm)) rfl (fun w hw => all_ hw) ?_
      refine sd_yes2 8 rfl (by exact gd_) (by kernel_rfl) (by kernel_rfl) (by exact nop_) (PuI.all (by exact pv_Sm)) rfl (fun w hw => all_ hw) ?_
      refine sd_yes2 9 rfl (by exact gd_) (by kernel_rfl) (by kernel_rfl) (by exact nop_) (PuI.all (by exact pv_Sm)) rfl (fun w hw => all_ hw) ?_
      refine sd_yes2 10 rfl (by exact gd_) (by kernel_rfl) (by kernel_rfl) (by exact nop_) (PuI.all (by exact pv_Sm)) rfl (fun w hw => all_ hw) ?_
      refine sd_yes2 11 rfl (by exact gd_) (by kernel_rfl) (by kernel_rfl) (by exact nop_) (PuI.all (by exact pv_Sm)) rfl (fun w hw => all_ hw) ?_
      refine sd_yes2 12 rfl (by exact gd_) (by kernel_rfl) (by kernel_rfl) (by exact nop_) (PuI.all (by exact pv_Sm)) rfl (fun w hw => all_ hw) ?_
      refine sd_yes2 13 rfl (by exact gd_) (by kernel_rfl) (by kernel_rfl) (by exact nop_) (PuI.all (by exact pv_Sm)) rfl (fun w hw => all_ hw) ?_
      refine sd_yes2 14 rfl (by exact gd_) (by kernel_rfl) (by kernel_rfl) (by exact nop_) (PuI.all (by exact pv_Sm)) rfl (fun w hw => all_ hw) ?_
      refine sd_yes2 15 rfl (by exact gd_) (by kernel_rfl) (by kernel_rfl) (by exact nop_) (pu_build (v := .agg #[.int .i64 d.length, .float .f64 d[0].x, .float .f64 d[d.length - 1].x, .float .f64 d[(d.length - 1) / 2].x]) rfl (fun W => by kernel_rfl)) rfl (fun w hw => all_ hw) ?_
      refine sd_one 16 (by kernel_rfl) (sa_sl 16 rfl ?_)
      refine sto_Sm ?_
      refine sl_nil ?_
      refine se_sd (fun _ w hw => all_ hw) ?_
      refine sd_done (by kernel_rfl) ?_
      refine go_Sm ?_
      exact se_ret_c (x := d) ⟨hp, hs⟩ rfl rfl (by exact at_) rfl rfl rfl (congrArg (fun l : List Value => Value.agg l.toArray) (summC_ne h0)) (by exact sub_)
end Go.Proofs.Ytidphdlhghgglaa
/- The fixed fact of chapter 30. -/
namespace Go.Proofs.Ytidphdlhghgglaa
open Go.RowKit
attribute [local irreducible] Go.Calls Go.Exit.then Go.Exit.inBlock Go.bodyPost Go.Code.wp Go.wpList
theorem pu_andNot {P : Program} {C : World → Prop} {n : Nat} {l : Env} {x y : Operand} {t t' ty : TypeId} {k : IntKind} {p q : Int} (hx : ev l x = some (.int k p)) (hy : ev l y = some (.int k q)) : Pu P C n l (.binOp .andNot t x y t') ty (.int k (bits .andNot k p q)) := by
  unfold Pu
  intro a _ _ _ _ W hs _
  simp only [execOp, hs.ev hx, hs.ev hy]
  simp [go_sem]
theorem nth_Sa {φ : Prop} (h : φ := by (first | rfl | assumption)) : φ := h
theorem mid_Sa {φ : Prop} (h : φ := by (first | exact Mid.all | exact Mid.all | exact Mid.head)) : φ := h
theorem sz_Sa {φ : Prop} (h : φ := by (first | rfl | (rfl; first | done | fail))) : φ := h
theorem one_Sa {φ : Prop} (h : φ := by (first | assumption | exact first | exact summ_one | exact one_bytes _ | (simp only [List.mem_cons, List.not_mem_nil, or_false, forall_eq_or_imp, forall_eq]; decide) | exact one_bytes _)) : φ := h
theorem set_Sa {φ : Prop} (h : φ := by (first | (fail) | ((repeat (first | exact SetAt.here | apply SetAt.there)); first | done | fail))) : φ := h
theorem cl_Sa {φ : Prop} (h : φ := by first | rfl | exact .t | exact .f | exact .t (by omega) | exact .f (by omega) | exact .u | exact .i (by (first | exact .t (by omega) | exact .f (by omega) | exact .u | exact .i (by omega) | exact .v (by omega) | exact .b (by omega) | exact .w | rfl | omega)) | exact .v (by omega) | exact .b (by omega) | exact .q (by omega) | exact .w | exact .b (by exact at_) rfl (by exact nth_Sa) | exact .w (by exact at_) rfl rfl (by exact sz_Sa) | exact .s (by exact at_) (by exact mid_Sa) rfl rfl (by exact sz_Sa) | exact .z rfl rfl ⟨by kernel_rfl⟩ | exact .b rfl rfl ⟨by kernel_rfl⟩ | exact .a rfl rfl ⟨by kernel_rfl⟩ | exact .o rfl | exact .s | exact .n | exact .p rfl | exact .q rfl | exact .c rfl | exact .d rfl | exact .n rfl rfl (by omega) | exact .a rfl rfl (by omega) | exact .p rfl rfl (by omega) (by omega) | exact .y rfl rfl (by omega) (by omega) | exact .o (by exact at_) (by omega) rfl (by exact nth_Sa) | exact .m (by exact at_) (by omega) (by exact mid_Sa) rfl rfl (by exact sz_Sa) | exact .mlen (by exact at_) rfl | exact .t (by exact at_) rfl rfl (by first | exact True.intro | rfl) (by assumption) | exact .f (by exact at_) rfl rfl (by first | exact True.intro | rfl) (by assumption) rfl | exact .t1 (by exact at_) rfl rfl (by first | exact True.intro | rfl) (by assumption) | exact .f1 (by exact at_) rfl rfl (by first | exact True.intro | rfl) (by assumption) rfl | exact .r rfl rfl (by omega) (by omega) (by exact nth_Sa) rfl | exact .s rfl (by omega) (by assumption) | exact at_ | assumption | exact .r rfl rfl | exact .h rfl rfl rfl (by omega) | exact .l rfl rfl rfl (by omega) (by omega) | exact .g rfl rfl rfl rfl (by omega) (by omega) | exact .h rfl rfl (toN_ (by omega)) (by omega) | exact .l rfl rfl (toN_ (by omega)) (by omega) (by omega) | exact .g rfl rfl (toN_ (by omega)) (toN_ (by omega)) (by omega) (by omega) | exact .o (by decide) | exact .f (by decide) | exact .n (by omega) (by first | decide | (show _ ≤ ((64 : Nat) : Int); omega)) | (constructor; (repeat (first | exact .t (by omega) | exact .f (by omega) | exact .u | exact .i (by omega) | exact .v (by omega) | exact .b (by omega) | exact .w | rfl | omega)); first | done | fail) | omega | (show _ ≤ ((64 : Nat) : Int); omega)) : φ := h
theorem pv_Sa {φ : Prop} (h : φ := by constructor; (repeat exact cl_Sa); first | done | fail) : φ := h
theorem su_Sa {φ ψ : Prop} (k : ψ) (h : Hide ψ → φ := by (intro k; (first | refine sl_pu (PuI.sep (by exact pv_Sa)) rfl ?_ | refine sl_yes rfl rfl ?_ | refine sl_no rfl rfl rfl ?_ | refine sl_off rfl rfl rfl ?_ | (fail)); exact k.out)) : φ := h ⟨k⟩
theorem rq_Sa {φ ψ : Prop} (k : ψ) (h : Hide ψ → φ := by (intro k; (first | refine wq_pu (PuI.sep (by exact pv_Sa)) rfl ?_ | refine wq_yes rfl rfl ?_ | refine wq_no rfl rfl rfl ?_ | refine wq_off rfl rfl rfl ?_ | (fail)); exact k.out)) : φ := h ⟨k⟩
theorem sto_Sa {φ ψ : Prop} (k : ψ) (h : Hide ψ → φ := by (intro k; (first | refine sl_store rfl (by exact pick_) rfl rfl (by kernel_rfl) (by exact set_Sa) ?_ | refine sl_store_whole rfl (by exact pick_) rfl (by exact sz_Sa) (by exact sz_Sa) (by exact one_Sa) ?_); exact k.out)) : φ := h ⟨k⟩
theorem go_Sa {φ ψ : Prop} (k : ψ) (h : Hide ψ → φ := by (intro k; (repeat (first | refine su_Sa ?_ | refine so_ ?_ | refine sto_Sa ?_)); exact k.out)) : φ := h ⟨k⟩
set_option maxRecDepth 100000 in
theorem copysign_ok {K : List Fa} : Fn Try.prog 23 #[.float .f64 0, .float .f64 13830554455654793216] K (Ret (fun _ : Unit => True) (fun _ => .float .f64 9223372036854775808) (fun _ => K)) := by
  refine fn_enter Try.func23 rfl _ Try.ntmps23 (by simp) [(0, .float .f64 0), (1, .float .f64 13830554455654793216)] (args_of (by simp)) ?_
  refine go_Sa ?_
  refine sl_pu (pu_ext (cap := []) rfl rfl (fun W _ => run_bits 0 W)) rfl ?_
  refine sl_pu (pu_andNot rfl rfl) rfl ?_
  refine go_Sa ?_
  refine sl_pu (pu_ext (cap := []) rfl rfl (fun W _ => run_bits 13830554455654793216 W)) rfl ?_
  refine go_Sa ?_
  refine sl_pu (pu_ext (cap := []) rfl rfl (fun W _ => run_frombits 9223372036854775808 W)) rfl ?_
  refine go_Sa ?_
  exact se_ret1 () trivial rfl rfl (by exact sub_)
theorem signbit_ok {K : List Fa} {x : Nat} (hx : x < 18446744073709551616) : Fn Try.prog 24 #[.float .f64 x] K (Ret (fun _ : Unit => True) (fun _ => .bool (fneg x)) (fun _ => K)) := fn_same (signbit_c x hx)
/-- Steps on floats. -/
theorem pu_feql {P : Program} {C : World → Prop} {n : Nat} {l : Env} {x y : Operand} {t t' ty : TypeId} {a b : Nat} (hx : ev l x = some (.float .f64 a)) (hy : ev l y = some (.float .f64 b)) : Pu P C n l (.binOp .eql t x y t') ty (.bool (fEq a b)) := by
  unfold Pu
  intro q _ _ _ _ W hs _
  simp only [execOp, hs.ev hx, hs.ev hy]
  simp [go_sem, fEq]
theorem pu_flss {P : Program} {C : World → Prop} {n : Nat} {l : Env} {x y : Operand} {t t' ty : TypeId} {a b : Nat} (hx : ev l x = some (.float .f64 a)) (hy : ev l y = some (.float .f64 b)) : Pu P C n l (.binOp .lss t x y t') ty (.bool (fLt a b)) := by
  unfold Pu
  intro q _ _ _ _ W hs _
  simp only [execOp, hs.ev hx, hs.ev hy]
  simp [go_sem, fLt]
theorem nums_awake : numsOf [9221120237041090561, 4611686018427387904, 9223372036854775808, 0] = [⟨4611686018427387904, by rw [fnan_eq]; rfl, by decide⟩, ⟨9223372036854775808, by rw [fnan_eq]; rfl, by decide⟩, ⟨0, by rw [fnan_eq]; rfl, by decide⟩] := by
  have h0 : fnan 9221120237041090561 = true := by rw [fnan_eq]; rfl
  have h1 : fnan 4611686018427387904 = false := by rw [fnan_eq]; rfl
  have h2 : fnan 9223372036854775808 = false := by rw [fnan_eq]; rfl
  have h3 : fnan 0 = false := by rw [fnan_eq]; rfl
  rw [nums_cons, dif_neg (by rw [h0]; simp), nums_cons, dif_pos ⟨h1, by decide⟩, nums_cons, dif_pos ⟨h2, by decide⟩, nums_cons, dif_pos ⟨h3, by decide⟩]
  rfl
def k2 : Int := 2 * (fv 4611686018427387904) + 1
theorem fv_0 : fv 0 = 0 := by
  show Ieee.signed false 0 _ = 0
  simp [Ieee.signed]
theorem fv_m0 : fv 9223372036854775808 = 0 := by
  show Ieee.signed true 0 _ = 0
  simp [Ieee.signed]
theorem fv_2 : 0 < fv 4611686018427387904 := by
  have h : Ieee.double.read 4611686018427387904 = .number false 4503599627370496 (-51) := by rfl
  unfold fv
  rw [h]
  show 0 < Ieee.signed false 4503599627370496 ((-51 : Int) + 1074).toNat
  unfold Ieee.signed
  rw [if_neg (by decide), Nat.shiftLeft_eq]
  have := Nat.two_pow_pos ((-51 : Int) + 1074).toNat
  have h2 : 0 < 4503599627370496 * 2 ^ ((-51 : Int) + 1074).toNat := Nat.mul_pos (by decide) this
  exact Int.natCast_pos.2 h2
theorem awake_sorted {d : List Fp} (hp : d.Perm (numsOf [9221120237041090561, 4611686018427387904, 9223372036854775808, 0])) (hs : d.Pairwise (fun a b => key a.x ≤ key b.x)) : ∃ a b c, d = [a, b, c] ∧ a.x = 9223372036854775808 ∧ b.x = 0 ∧ c.x = 4611686018427387904 := by
  rw [nums_awake] at hp
  have hlen := hp.length_eq
  obtain ⟨a, b, c, rfl⟩ : ∃ a b c, d = [a, b, c] := by
    match d, hlen with
    | [a, b, c], _ => exact ⟨a, b, c, rfl⟩
  have hka : key 4611686018427387904 = k2 := by
    unfold key k2
    rw [show fneg 4611686018427387904 = false by rfl]
    rfl
  have hkb : key 9223372036854775808 = 0 := by
    unfold key
    rw [fv_m0, show fneg 9223372036854775808 = true by rfl]
    rfl
  have hkc : key 0 = 1 := by
    unfold key
    rw [fv_0, show fneg 0 = false by rfl]
    rfl
  have hk2 : 1 < k2 := by
    have := fv_2
    unfold k2
    omega
  have hm := hp.map Fp.x
  have hk : [a.x, b.x, c.x].Pairwise (fun x y => key x ≤ key y) := by simpa using hs
  simp only [List.map_cons, List.map_nil] at hm
  have e := List.Perm.eq_of_pairwise (le := fun x y => key x ≤ key y) (l₁ := [a.x, b.x, c.x]) (l₂ := [9223372036854775808, 0, 4611686018427387904]) (fun x y hx hy h1 h2 => ?_) hk (by simp [hka, hkb, hkc]; omega) (hm.trans ?_)
  · simp only [List.cons.injEq, and_true] at e
    exact ⟨a, b, c, rfl, e⟩
  · have hx' := hm.mem_iff.1 hx
    simp only [List.mem_cons, List.not_mem_nil, or_false] at hx' hy
    rcases hx' with rfl | rfl | rfl <;> rcases hy with rfl | rfl | rfl <;> simp only [hka, hkb, hkc] at h1 h2 <;> first | rfl | omega
  · exact (List.Perm.cons _ (List.Perm.refl _)).trans (List.perm_iff_count.2 fun z => by simp only [List.count_cons, List.count_nil]; omega)
theorem summA {a b c : Fp} (ha : a.x = 9223372036854775808) (hb : b.x = 0) (hc : c.x = 4611686018427387904) : Value.agg (summC [a, b, c]).toArray = .agg #[.int .i64 3, .float .f64 9223372036854775808, .float .f64 4611686018427387904, .float .f64 0] := by
  unfold summC
  simp [fl, ha, hb, hc]
theorem fEq_self {x : Nat} (h : fnan x = false) : fEq x x = true := by
  rw [fEq_of h h]
  simp
theorem fl_oneA {a b c d : Nat} : ∀ u ∈ [Value.float .f64 a, .float .f64 b, .float .f64 c, .float .f64 d], u.oneCell' = true := by
  intro u hu
  simp only [List.mem_cons, List.not_mem_nil, or_false] at hu
  rcases hu with rfl | rfl | rfl | rfl <;> rfl
set_option maxRecDepth 100000 in
set_option maxHeartbeats 2000000 in
theorem awake30 {K : List Fa} : Fn Try.prog 9 #[] K (Ret (fun _ : Unit => True) (fun _ => .bool true) (fun _ => K)) := by
  refine fn_enter Try.func9 rfl _ Try.ntmps9 (by simp) [] (args_of (by simp)) ?_
  refine go_Sa ?_
  refine sl_call rfl rfl (by kernel_rfl) rfl Sub.refl (fn_same nan_c) ?_
  rintro _ -
  refine go_Sa ?_
  refine sl_call rfl rfl (by kernel_rfl) rfl Sub.refl copysign_ok ?_
  rintro _ -
  refine go_Sa ?_
  refine sl_build (size := 1) (e := 24) (cells := [9221120237041090561, 4611686018427387904, 9223372036854775808, 0].map fl) rfl (fun W => by kernel_rfl) rfl (by decide) rfl ?_
  intro gb
  refine go_Sa ?_
  refine sl_call rfl rfl (by kernel_rfl) rfl Sub.refl (summ_ok (xs := [9221120237041090561, 4611686018427387904, 9223372036854775808, 0]) (Vw.of_own (e := 24) (A := some ⟨gb, 0, none⟩) (c := 4) (by exact at_)) (by decide) (by decide)) ?_
  rintro d ⟨hp, hs⟩
  obtain ⟨a, b, c, rfl, ha, hb, hc⟩ := awake_sorted hp hs
  rw [summA ha hb hc]
  refine go_Sa ?_
  refine sl_alloc rfl rfl rfl ?_; intro g1
  refine go_Sa ?_
  refine sl_pu (pu_feql rfl rfl) rfl ?_
  rw [show fEq 9223372036854775808 0 = true by rw [fEq_of (by rw [fnan_eq]; rfl) (by rw [fnan_eq]; rfl), fv_m0, fv_0]; rfl]
  refine go_Sa ?_
  refine sl_call rfl rfl (by kernel_rfl) rfl Sub.refl (signbit_ok (by decide)) ?_
  rintro _ -
  rw [show fneg 9223372036854775808 = true from rfl]
  refine go_Sa ?_
  refine sl_pu (pu_feql rfl rfl) rfl ?_
  rw [show fEq 4611686018427387904 4611686018427387904 = true from fEq_self (by rw [fnan_eq]; rfl)]
  refine go_Sa ?_
  refine sl_pu (pu_feql rfl rfl) rfl ?_
  rw [show fEq 0 0 = true from fEq_self (by rw [fnan_eq]; rfl)]
  refine go_Sa ?_
  refine sl_call rfl rfl (by kernel_rfl) rfl Sub.refl (signbit_ok (by decide)) ?_
  rintro _ -
  rw [show fneg 0 = false from rfl]
  refine go_Sa ?_
  exact se_ret1 () trivial rfl rfl (by exact sub_)
end Go.Proofs.Ytidphdlhghgglaa
/- less and Just, as the statements have them. -/
namespace Go.Proofs.Ytidphdlhghgglaa
open Go.RowKit
def lessF (a b : Nat) : Bool := fLt a b || (fEq a b && (fneg a && !fneg b))
def justF (a b : Nat) : Bool := (fnan a && fnan b) || (fEq a b && (fneg a == fneg b))
theorem none_c (x : Nat) (W : World) : Calls Try.prog 28 #[.float .f64 x] W fun e w' => e = .returned (.bool (fnan x)) ∧ w' = W := by
  go_enter Try.func28, Try.ntmps28
  go_wp2
  go_ret
  exact ⟨rfl, rfl⟩
theorem less_c (x y : Nat) (hx : x < 18446744073709551616) (hy : y < 18446744073709551616) (W : World) : Calls Try.prog 11 #[.float .f64 x, .float .f64 y] W fun e w' => e = .returned (.bool (lessF x y)) ∧ w' = W := by
  go_enter Try.func11, Try.ntmps11
  go_wp2_with (go_at_call 24; refine (signbit_c _ (by assumption) _).mono ?_; rintro e w' ⟨rfl, rfl⟩)
  all_goals go_ret
  all_goals refine ⟨?_, rfl⟩
  all_goals simp_all [lessF, fLt, fEq]
theorem just_c (x y : Nat) (hx : x < 18446744073709551616) (hy : y < 18446744073709551616) (W : World) : Calls Try.prog 12 #[.float .f64 x, .float .f64 y] W fun e w' => e = .returned (.bool (justF x y)) ∧ w' = W := by
  go_enter Try.func12, Try.ntmps12
  go_wp2_with (first | (go_at_call 24; refine (signbit_c _ (by assumption) _).mono ?_; rintro e w' ⟨rfl, rfl⟩) | (go_at_call 28; refine (none_c _ _).mono ?_; rintro e w' ⟨rfl, rfl⟩))
  all_goals go_ret
  all_goals refine ⟨?_, rfl⟩
  all_goals simp_all [justF, fEq]
theorem less_of {x y : Nat} (hx : fnan x = false) (hy : fnan y = false) : lessF x y = decide (key x < key y) := by
  unfold lessF key
  rw [fEq_of hx hy, fLt_of hx hy]
  rw [Bool.eq_iff_iff]
  cases fneg x <;> cases fneg y <;> simp <;> omega
theorem just_key {x y : Nat} (hx : fnan x = false) (hy : fnan y = false) (h : key x = key y) : justF x y = true := by
  unfold justF
  unfold key at h
  rw [fEq_of hx hy]
  have : fv x = fv y ∧ fneg x = fneg y := by
    cases hp : fneg x <;> cases hq : fneg y <;> rw [hp, hq] at h <;> simp at h ⊢ <;> omega
  rw [this.1, this.2]
  simp
end Go.Proofs.Ytidphdlhghgglaa
/- Differences of floats. Plain. -/
namespace Go.Proofs.Ytidphdlhghgglaa
open Go.RowKit
def absF (x : Nat) : Nat := x % 9223372036854775808
def fLe (a b : Nat) : Bool := fLt a b || fEq a b
def subF (x y : Nat) : Option Nat := FloatKind.f64.format.sub x y
theorem sw_eq : Ieee.double.signWeight = 9223372036854775808 := by decide
theorem ir_eq : Ieee.double.infRung = 9218868437227405312 := by decide
theorem bi_eq : Ieee.double.binade = 4503599627370496 := by decide
theorem abs_word (n n' : Bool) {r : Nat} (h : r ≤ Ieee.double.infRung) : absF (Ieee.double.word n r) = absF (Ieee.double.word n' r) := by
  rw [ir_eq] at h
  unfold Ieee.Format.word absF
  rw [sw_eq]
  cases n <;> cases n' <;> simp only [Bool.false_eq_true, if_false, if_true] <;> omega
theorem cut_even (n n' : Bool) (a b : Nat) : Ieee.Toward.even.cut n a b = Ieee.Toward.even.cut n' a b := rfl
theorem abs_nearest (n n' : Bool) (mag : Nat) (place : Int) : absF (Ieee.double.nearest n mag place) = absF (Ieee.double.nearest n' mag place) := by
  unfold Ieee.Format.nearest
  by_cases h : mag = 0
  · rw [if_pos h, if_pos h]
    exact abs_word n n' (Nat.zero_le _)
  · rw [if_neg h, if_neg h]
    dsimp only
    rw [cut_even n n']
    exact abs_word n n' (Nat.min_le_right _ _)
theorem signed_not (s : Bool) (m k : Nat) : Ieee.signed (!s) m k = -Ieee.signed s m k := by
  unfold Ieee.signed
  cases s <;> simp
theorem sub_abs (x y : Nat) : (subF x y).map absF = (subF y x).map absF := by
  show (((Ieee.double.read x).sum (Ieee.double.read y).opposite).map Ieee.double.write).map absF = (((Ieee.double.read y).sum (Ieee.double.read x).opposite).map Ieee.double.write).map absF
  generalize Ieee.double.read x = a
  generalize Ieee.double.read y = b
  have hi : ∀ n n', absF (Ieee.double.word n Ieee.double.infRung) = absF (Ieee.double.word n' Ieee.double.infRung) := fun n n' => abs_word n n' (Nat.le_refl _)
  cases a with
  | nan s f => cases b <;> rfl
  | infinity s =>
    cases b with
    | nan t g => rfl
    | infinity t =>
      simp only [Ieee.Datum.opposite, Ieee.Datum.sum]
      cases s <;> cases t <;> simp [Ieee.Format.write, hi true false]
    | number t n j => exact congrArg some (hi s (!s))
  | number s m i =>
    cases b with
    | nan t g => rfl
    | infinity t => exact congrArg some (hi (!t) t)
    | number t n j =>
      simp only [Ieee.Datum.opposite, Ieee.Datum.sum, Option.map_some, Ieee.Format.write]
      rw [Int.min_comm j i, signed_not, signed_not]
      have : (Ieee.signed t n (j - min i j).toNat + -Ieee.signed s m (i - min i j).toNat).natAbs = (Ieee.signed s m (i - min i j).toNat + -Ieee.signed t n (j - min i j).toNat).natAbs := by omega
      rw [this]
      exact congrArg some (abs_nearest _ _ _ _)
theorem sub_nan {x y : Nat} (h : fnan x = true ∨ fnan y = true) : subF x y = none := by
  rw [fnan_eq, fnan_eq] at h
  show (((Ieee.double.read x).sum (Ieee.double.read y).opposite).map Ieee.double.write) = none
  revert h
  generalize Ieee.double.read x = a
  generalize Ieee.double.read y = b
  intro h
  cases a <;> cases b <;> first | rfl | simp [Ieee.Datum.isNaN] at h
theorem sub_lt {x y r : Nat} (h : subF x y = some r) : r < 18446744073709551616 := by
  have := Ieee.Format.sub_lt (f := Ieee.double) h
  exact Nat.lt_of_lt_of_le this (by decide)
/-- Its size. -/
def absD : Ieee.Datum → Ieee.Datum
  | .number _ m i => .number false m i
  | .infinity _ => .infinity false
  | .nan _ f => .nan false f
theorem read_abs (x : Nat) : Ieee.double.read (absF x) = absD (Ieee.double.read x) := by
  unfold Ieee.Format.read absF
  simp only [sw_eq]
  rw [Nat.mod_mod, show x % 9223372036854775808 / 9223372036854775808 = 0 by omega]
  split
  · rfl
  · split
    · rfl
    · split <;> rfl
theorem nan_abs (x : Nat) : fnan (absF x) = fnan x := by
  rw [fnan_eq, fnan_eq, read_abs]
  cases Ieee.double.read x <;> rfl
theorem fneg_read {x : Nat} (hx : x < 18446744073709551616) : (Ieee.double.read x).neg = fneg x := by
  have h : (x / 9223372036854775808 % 2 == 1) = fneg x := by
    unfold fneg
    rw [Bool.eq_iff_iff]
    simp
    omega
  unfold Ieee.Format.read
  simp only [sw_eq]
  rw [h]
  split
  · rfl
  · split
    · rfl
    · split <;> rfl
theorem fv_abs {x : Nat} (hx : x < 18446744073709551616) (hn : fnan x = false) : fv (absF x) = if fneg x then -fv x else fv x := by
  unfold fv
  rw [read_abs, ← fneg_read hx]
  rw [fnan_eq] at hn
  cases h : Ieee.double.read x with
  | nan s f => rw [h] at hn; cases hn
  | infinity s => cases s <;> simp [absD, fvD, Ieee.Datum.neg]
  | number s m i => cases s <;> simp [absD, fvD, Ieee.Datum.neg, Ieee.signed]
theorem fv_sign {x : Nat} (hx : x < 18446744073709551616) (hn : fnan x = false) : if fneg x then fv x ≤ 0 else 0 ≤ fv x := by
  unfold fv
  rw [← fneg_read hx]
  rw [fnan_eq] at hn
  cases h : Ieee.double.read x with
  | nan s f => rw [h] at hn; cases hn
  | infinity s => cases s <;> simp [fvD, Ieee.Datum.neg]
  | number s m i =>
    have hm : ∀ k, (0 : Int) ≤ ((m <<< k : Nat) : Int) := fun k => Int.natCast_nonneg _
    cases s
    · show (0 : Int) ≤ ((m <<< (i + 1074).toNat : Nat) : Int)
      exact hm _
    · show -((m <<< (i + 1074).toNat : Nat) : Int) ≤ 0
      have := hm (i + 1074).toNat
      omega
theorem xor_top {r : Nat} (h : r < 9223372036854775808) : (9223372036854775808 + r) ^^^ 9223372036854775808 = r := by
  rw [show (9223372036854775808 : Nat) = 2 ^ 63 by decide] at h ⊢
  apply Nat.eq_of_testBit_eq
  intro i
  rw [Nat.testBit_xor, Nat.testBit_two_pow]
  rcases Nat.lt_trichotomy i 63 with hi | hi | hi
  · rw [Nat.testBit_two_pow_add_gt hi, decide_eq_false (by omega)]
    simp
  · subst hi
    rw [Nat.testBit_two_pow_add_eq, Nat.testBit_lt_two_pow h]
    rfl
  · rw [Nat.testBit_lt_two_pow (Nat.lt_of_lt_of_le (by omega : 2 ^ 63 + r < 2 ^ 64) (Nat.pow_le_pow_right (by decide) hi)), Nat.testBit_lt_two_pow (Nat.lt_of_lt_of_le h (Nat.pow_le_pow_right (by decide) (by omega))), decide_eq_false (by omega)]
    rfl
theorem neg_top {x : Nat} (hx : x < 18446744073709551616) (hn : fneg x = true) : x ^^^ 9223372036854775808 = absF x := by
  unfold fneg at hn
  have h := of_decide_eq_true hn
  have h2 := xor_top (r := x - 9223372036854775808) (by omega)
  rw [show 9223372036854775808 + (x - 9223372036854775808) = x by omega] at h2
  rw [h2]
  unfold absF
  omega
theorem lt0_neg {x : Nat} (hx : x < 18446744073709551616) (h : fLt x 0 = true) : fneg x = true := by
  have hn : fnan x = false := by
    cases h2 : fnan x with
    | true => rw [fLt_nan (.inl h2)] at h; cases h
    | false => rfl
  have h0 : fnan 0 = false := by rw [fnan_eq]; rfl
  have hz : fv 0 = 0 := by
    show Ieee.signed false 0 _ = 0
    simp [Ieee.signed]
  rw [fLt_of hn h0, hz, decide_eq_true_eq] at h
  have h3 := fv_sign hx hn
  cases h4 : fneg x with
  | true => rfl
  | false => rw [h4] at h3; simp at h3; omega
/-- The statement's way to a size is as good as the sign's. -/
theorem le_abs {x k : Nat} (hx : x < 18446744073709551616) (h : fLt x 0 = false) : fLe x k = fLe (absF x) k := by
  cases hn : fnan x with
  | true =>
    unfold fLe
    rw [fLt_nan (.inl hn), fEq_nan (.inl hn), fLt_nan (.inl (by rw [nan_abs]; exact hn)), fEq_nan (.inl (by rw [nan_abs]; exact hn))]
  | false =>
    have h0 : fnan 0 = false := by rw [fnan_eq]; rfl
    have hz : fv 0 = 0 := by
      show Ieee.signed false 0 _ = 0
      simp [Ieee.signed]
    rw [fLt_of hn h0, hz, decide_eq_false_iff_not] at h
    have hv : fv (absF x) = fv x := by
      rw [fv_abs hx hn]
      have h3 := fv_sign hx hn
      cases h4 : fneg x <;> rw [h4] at h3 <;> simp at h3 ⊢ <;> omega
    unfold fLe
    cases hk : fnan k with
    | true => rw [fLt_nan (.inr hk), fEq_nan (.inr hk), fLt_nan (.inr hk), fEq_nan (.inr hk)]
    | false => rw [fLt_of hn hk, fEq_of hn hk, fLt_of (by rw [nan_abs]; exact hn) hk, fEq_of (by rw [nan_abs]; exact hn) hk, hv]
theorem le_nan {x k : Nat} (h : fnan x = true) : fLe x k = false := by
  unfold fLe
  rw [fLt_nan (.inl h), fEq_nan (.inl h)]
  rfl
/-- Near. -/
def nearF (a b k : Nat) : Bool := sameF a b || (match subF a b with
  | some r => fLe (absF r) k
  | none => false)
theorem fEq_comm (a b : Nat) : fEq a b = fEq b a := by
  by_cases h : fnan a = true ∨ fnan b = true
  · rw [fEq_nan h, fEq_nan h.symm]
  · have ha : fnan a = false := by cases hh : fnan a <;> simp_all
    have hb : fnan b = false := by cases hh : fnan b <;> simp_all
    rw [fEq_of ha hb, fEq_of hb ha, Bool.eq_iff_iff]
    simp
    omega
theorem near_comm (a b k : Nat) : nearF a b k = nearF b a k := by
  unfold nearF sameF
  rw [fEq_comm b a, Bool.and_comm (fnan b)]
  have h := sub_abs a b
  cases h1 : subF a b <;> cases h2 : subF b a <;> rw [h1, h2] at h <;> simp_all
end Go.Proofs.Ytidphdlhghgglaa
/- In a region that draws: an operation whose guard itself was passed by. -/
namespace Go.Proofs.Ytidphdlhghgglaa
open Go.RowKit
section
variable {P : Program} {ops : Array Oper} {Q : Exit → Act → World → Prop} {S : World → Prop} {need : Nat → Bool} {fuel : Nat} {listed : Array Bool} {n : Nat} {l : Env} {L : List Fa} {d : Tmp} {op : Op} {ty : TypeId} {pos : String} {after : Array Edge}
theorem sd_off3 (i : Nat) {j t : Nat} {b : Bool} (hi : ops[i]? = some ⟨some d, op, ty, pos, after, some (j, b)⟩) (hj : (ops[j]?).bind (·.dst) = some t) (ht : lk l t = some undef) (hB : freeOk ops listed i = true) (hN : stayOk2 ops listed need i = true)
    (hQ : NoP Q) (hd : Nat.blt d n = true) (hS : ∀ w, Sep w L → S w) (h : SD P ops Q S need fuel (listed.setIfInBounds i true) n ((d, undef) :: l) L) : SD P ops Q S need (fuel + 1) listed n l L := sd_of fun w hw => by
  have h1 := h.to hw
  unfold WD at h1 ⊢
  intro a hs
  have hwant : Region.wanted ⟨some d, op, ty, pos, after, some (j, b)⟩ (yielded ops a.tmps) = false := by
    have h2 : ((none : Option Bool) == some b) = false := rfl
    simp only [Region.wanted, hs.unyield hj ht, h2]
  obtain ⟨b1, b2, b3⟩ := freeOk_spec hB
  exact wpAnyD_first2 (R := fun j => ∃ f, waitsFor ops listed i f j = true) hi (Region.noSelect_spec b1) (fun c a w => hQ c a _ _ w) (fun j oj ⟨f, hf⟩ hj => waitsFor_edge hf hj) fuel listed a w (fun j oj hj hji hun hnR => stayOk2_spec hN j oj hj hji hun hnR) (fun j ⟨f, hf⟩ => waitsFor_un hf) (Region.free_spec hi b2) (by simpa using b3) (.inr ⟨hwant, rfl⟩) (hS w hw) (h1 _ (hs.put hd undef))
end
end Go.Proofs.Ytidphdlhghgglaa
