/- copy onto the whole of a block of the call's own. No program is in sight. -/
import Derived.Test.YtfnjeojaahnlfaaDoorMem
import Derived.Laws.CopyOwn
import Derived.Deep.MidRow
namespace Go.Proofs.YtfnjeojaahnlfaaDoor
open Go.RowKit

section
variable {P : Program} {w : World} {dT sT elem t : TypeId} {g n c : Nat} {A : Option Addr} {cur : Array Value} {cs : List Value}

theorem run_copy_whole (ty : TypeId) (hu : P.underlying dT = some (.slice elem)) (hsz : (P.info? elem).map (·.size) = some 1) (hb : Blk w g t cur) (hn : cur.size = n) (hp : 0 < n) (hr : Reads w 1 A n cs) (h1 : ∀ v ∈ cs, v.oneCell' = true) :
    ∃ w', (Builtin.copy_ #[dT, sT] ty #[.slice (some ⟨g, 0, none⟩) n n, .slice A n c]).run P w = .ok (goInt n) w' ∧ Blk w' g t cs.toArray ∧ Fr (fun k => k = g) w w' := by
  obtain ⟨ad, rfl, hc⟩ := hr.2 hp
  have hl : cs.length = n := by simpa using hr.1
  have hrun := run_copy_row (P := P) w dT sT ty elem g 0 n n ad n c cur t cs hu hsz hb (by rw [hl]; exact (Nat.min_self n).symm) hc (by omega) h1
  have hd : cur.toList.take 0 ++ cs ++ cur.toList.drop (0 + cs.length) = cs := by
    rw [List.take_zero, List.nil_append, List.drop_of_length_le (by simp; omega), List.append_nil]
  rw [hd, hl] at hrun
  refine ⟨w.setRow g cs.toArray, hrun, ?_, ⟨rfl, rfl, rfl, by simp, fun k _ hk => setRow_other w g k _ hk⟩⟩
  exact setRow_heap w g cur cs.toArray t (0, 0) hb

theorem wp_copy_whole {o : Oper} {a : Act} {K : Act → World → Prop} {Q : Exit → Act → World → Prop} (d s : Operand)
    (ho : o.op = .call { callee := .builtin .copy, args := #[d, s], argTypes := #[dT, sT] }) (hu : P.underlying dT = some (.slice elem)) (hsz : (P.info? elem).map (·.size) = some 1)
    (hd : a.eval d = .slice (some ⟨g, 0, none⟩) n n) (hs : a.eval s = .slice A n c) (hb : Blk w g t cur) (hn : cur.size = n) (hp : 0 < n) (hr : Reads w 1 A n cs) (h1 : ∀ v ∈ cs, v.oneCell' = true)
    (h : ∀ w', Blk w' g t cs.toArray → Fr (fun k => k = g) w w' → K (a.put o.dst (goInt n)) w') : o.wp P a w K Q := by
  obtain ⟨w', hrun, h2, h3⟩ := run_copy_whole (P := P) (sT := sT) (c := c) o.type hu hsz hb hn hp hr h1
  unfold Oper.wp execOp
  simp only [ho, resolve, invoke, builtin, Sem.run_bind, Sem.run_pure, Result.andThen_ok, List.map_toArray, List.map_cons, List.map_nil, hd, hs, hrun]
  exact h w' h2 h3
/-- .. of which nothing goes over. -/
theorem wp_copy_nothing {o : Oper} {a : Act} {K : Act → World → Prop} {Q : Exit → Act → World → Prop} (d s : Operand)
    (ho : o.op = .call { callee := .builtin .copy, args := #[d, s], argTypes := #[dT, sT] }) (hu : P.underlying dT = some (.slice elem)) (hsz : (P.info? elem).map (·.size) = some 1)
    (dp : Option Addr) (dLen dCap : Nat) (hd : a.eval d = .slice dp dLen dCap) (hs : a.eval s = .slice A 0 c)
    (h : K (a.put o.dst (goInt 0)) w) : o.wp P a w K Q := by
  have hrun := run_copy_none (P := P) w dT sT o.type elem dp A dLen dCap 0 c hu hsz (Nat.zero_min _)
  unfold Oper.wp execOp
  simp only [ho, resolve, invoke, builtin, Sem.run_bind, Sem.run_pure, Result.andThen_ok, List.map_toArray, List.map_cons, List.map_nil, hd, hs, hrun]
  exact h
/-! ### A whole block as a value -/
theorem setCells_blk_from {w : World} {g : Nat} {t : TypeId} : ∀ (vs : List Value) (o : Nat) (w : World) (cur : Array Value), Blk w g t cur → o + vs.length = cur.size → Blk (w.setCells g o vs) g t ((cur.toList.take o ++ vs).toArray)
  | [], o, w, cur, h, ho => by
    rw [List.append_nil, List.take_of_length_le (by simp at ho; simp; omega)]
    simpa [World.setCells] using h
  | v :: r, o, w, cur, h, ho => by
    have h1 := setCells_blk_from (w := w) r (o + 1) _ _ (h.set_ o v) (by simp at ho ⊢; omega)
    have e : (cur.setIfInBounds o v).toList.take (o + 1) ++ r = cur.toList.take o ++ v :: r := by
      rw [List.length_cons] at ho
      rw [Array.toList_setIfInBounds, List.take_set, List.take_succ_eq_append_getElem (by simp; omega), List.set_append_right _ _ (by simp; omega)]
      simp
      rw [Nat.min_eq_left (by omega), Nat.sub_self]
      rfl
    rw [e] at h1
    exact h1
theorem setCells_blk {w : World} {g : Nat} {t : TypeId} {cur : Array Value} (h : Blk w g t cur) (cs : Array Value) (hs : cs.size = cur.size) : Blk (w.setCells g 0 cs.toList) g t cs := by
  have h1 := setCells_blk_from (w := w) cs.toList 0 w cur h (by simpa using hs)
  simpa using h1
theorem setCells_fr {g : Nat} : ∀ (vs : List Value) (o : Nat) (w : World), Fr (fun k => k = g) w (w.setCells g o vs)
  | [], _, w => Fr.refl _ _
  | v :: r, o, w => ((Fr.refl (fun k => k = g) w).setCell (.inr rfl) v).trans (setCells_fr r (o + 1) _) (fun _ _ e => e)

theorem wpList_load_blk {ops : Array Oper} {rest : List Oper} {o : Oper} {a : Act} {w : World} {Q : Exit → Act → World → Prop} (hgd : o.guard = none) (ty : TypeId) (x : Operand) (ho : o.op = .load ty x)
    (g : Nat) (hx : a.eval x = .pointer (some ⟨g, 0, none⟩)) (cs : Array Value) (d : TypeDesc) (hb : Blk w g t cs)
    (hu : P.underlying ty = some d) (hd : (match d with | .struct _ | .array _ _ => true | _ => false) = true) (n : Nat) (hi : (P.info? ty).map (·.size) = some n) (hn : cs.size = n)
    (h : wpList P ops Q rest (a.put o.dst (.agg cs)) w) : wpList P ops Q (o :: rest) a w :=
  wpList_load_row hgd ty x ho g hx t cs (0, 0) d hb hu hd (by rw [hn]; exact hi) h

theorem wpList_store_blk {ops : Array Oper} {rest : List Oper} {o : Oper} {a : Act} {w : World} {Q : Exit → Act → World → Prop} (hgd : o.guard = none) (ty : TypeId) (x y : Operand) (ho : o.op = .store ty x y)
    (g : Nat) (cells : Array Value) (hx : a.eval x = .pointer (some ⟨g, 0, none⟩)) (hy : a.eval y = .agg cells) (hb : Blk w g t cur) (n : Nat) (hi : (P.info? ty).map (·.size) = some n) (hn : cells.size = n) (hc : cur.size = n)
    (h1 : ∀ v ∈ cells.toList, v.oneCell' = true)
    (h : ∀ w', Blk w' g t cells → Fr (fun k => k = g) w w' → wpList P ops Q rest (a.put o.dst undef) w') : wpList P ops Q (o :: rest) a w := by
  refine wpList_store_mid hgd ty x y ho g 0 cells hx hy (fun j hj => ?_) (by rw [hn]; exact hi) (by have := all_oneCell_toArray h1; simpa using this) ?_
  · refine ⟨?_, ?_⟩
    · rw [hb.cell, Array.getElem?_eq_getElem (by omega)]; rfl
    · exact hb.frozen _
  · exact h _ (setCells_blk hb cells (by omega)) (setCells_fr _ _ _)
end

end Go.Proofs.YtfnjeojaahnlfaaDoor
