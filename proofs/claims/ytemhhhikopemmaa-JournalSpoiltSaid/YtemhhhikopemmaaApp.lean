/- append where there is no room, and of nothing. No program is in sight. -/
import Derived.Test.YtemhhhikopemmaaSp4
import Derived.Deep.AppendSrc
namespace Go.Proofs.Ytemhhhikopemmaa
open Go.RowKit
section
variable {P : Program} {ops : Array Oper} {Q : Exit → Act → World → Prop} {n : Nat} {l : Env} {L L' : List Fa} {rest : List Oper} {d : Tmp} {ty t t' e : TypeId} {pos : String} {after : Array Edge} {x y : Operand} {k m c cb size bytes : Nat} {A B : Option Addr} {xs ys : List Value} {z : Value}
/-- A slice whose room is its length: a new row. -/
theorem sl_app_full (hx : ev l x = some (.slice A k k)) (hr0 : Vw L (fun w => Reads w size A k xs)) (hk : 0 < k) (hy : ev l y = some (.slice B m cb)) (hr : Vw L (fun w => Reads w size B m ys)) (hm : 0 < m) (ht : P.underlying t = some (.slice e)) (hi : (P.info? e).map (fun i => (i.zero, i.size, i.bytes)) = some (some z, size, bytes)) (hzs : z.cells.size = size)
    (hd : Nat.blt d n = true) (h63 : k + m ≤ maxLen) (hby : (k + m) * bytes ≤ 140737488355328)
    (h : ∀ g c', SL P ops Q rest n ((d, .slice (some ⟨g, 0, none⟩) (k + m) c') :: l) (own e size (some ⟨g, 0, none⟩) (k + m) c' (xs ++ ys) :: L)) : SL P ops Q (⟨some d, .call { callee := .builtin .append, args := #[x, y], argTypes := #[t, t] }, ty, pos, after, none⟩ :: rest) n l L := sl_of fun w hw => by
  obtain ⟨i, hi0, hz0, hz1, hz2⟩ := info_parts hi
  subst hz1 hz2
  have hR0 := hr0 w hw
  have hR := hr w hw
  obtain ⟨ad, rfl, hc0⟩ := hR0.2 hk
  obtain ⟨bd, rfl, hc1⟩ := hR.2 hm
  have h63' : ((k + m : Nat) : Int) ≤ 9223372036854775807 := by
    have := h63
    simp [maxLen] at this
    omega
  have hrun := run_append_grow (P := P) (w := w) t ty e i z ht hi0 hz0 ad k k xs hR0.1 hc0 bd m cb ys hR.1 hc1 (by omega) h63' (growslice_fits (by omega) hby)
  have hge := grownCap_ge w (k + m) k e
  have hle := grownCap_le_maxLen w (k + m) k e h63
  refine wl_run (v := .slice (some ⟨w.heap.size, 0, none⟩) (k + m) (grownCap w (k + m) k e)) (w' := w.drew.alloc (.cells (xs.toArray ++ ys.toArray ++ Builtin.zeroCells z.cells (grownCap w (k + m) k e - (k + m))) e)) ?_ hd ((h w.heap.size _).to (hw.new ((Fr.refl Nil w).drew.alloc _) ?_ (fun j hj => ?_)))
  · unfold Ru
    intro a _ _ _ _ hs
    simp only [execOp, resolve, List.map_toArray, List.map_cons, List.map_nil, hs.ev hx, hs.ev hy]
    simp only [invoke, builtin, Sem.run_bind, Sem.run_pure, Result.andThen_ok, hrun]
  · have h0 := hR0.1
    have h1 := hR.1
    have h2 : (grownCap w (k + m) k e - (k + m)) * i.size = grownCap w (k + m) k e * i.size - (k + m) * i.size := Nat.sub_mul _ _ _
    have h3 : (k + m) * i.size ≤ grownCap w (k + m) k e * i.size := Nat.mul_le_mul_right _ hge
    have h4 : (k + m) * i.size = k * i.size + m * i.size := Nat.add_mul _ _ _
    refine own_mk (own_close (cur := xs.toArray ++ ys.toArray ++ Builtin.zeroCells z.cells (grownCap w (k + m) k e - (k + m))) (Blk.new w.drew e _) hge hle ?_ ?_ ?_)
    · simp only [Array.size_append, List.size_toArray, Builtin.zeroCells, Array.size_map, Array.size_range, hzs]
      omega
    · simp only [Array.toList_append, List.toList_toArray]
      rw [List.take_left']
      rw [List.length_append]
      omega
    · rw [List.length_append]
      omega
  · rw [own_F] at hj
    exact Nat.le_of_eq (Option.some.inj hj)
/-- Nothing is appended. -/
theorem sl_app_none (hx : ev l x = some (.slice A k c)) (hkc : k ≤ c) (hy : ev l y = some (.slice B 0 cb)) (ht : P.underlying t = some (.slice e)) (hi : (P.info? e).map (fun i => (i.zero, i.size, i.bytes)) = some (some z, size, bytes)) (hd : Nat.blt d n = true)
    (h : SL P ops Q rest n ((d, .slice A k c) :: l) L) : SL P ops Q (⟨some d, .call { callee := .builtin .append, args := #[x, y], argTypes := #[t, t] }, ty, pos, after, none⟩ :: rest) n l L := sl_of fun w hw => by
  obtain ⟨i, hi0, hz0, hz1, hz2⟩ := info_parts hi
  subst hz1 hz2
  have hrun : (Builtin.append_ #[t, t] ty #[.slice A k c, .slice B 0 cb]).run P w = .ok (.slice A k c) w := by
    have h2 : ∀ W : World, (Builtin.firstCells i.size 0 (.slice B 0 cb)).run P W = .ok #[] W := fun W => by
      cases B with
      | none => simp [Builtin.firstCells]
      | some b => simpa using run_firstCells_some (P := P) W i.size 0 b 0 cb [] (by simp) (by simp)
    cases A with
    | none => simp [Builtin.append_, run_underlying ht, sizeOf, typeInfo, hi0, Builtin.lenOf, hkc, h2]
    | some a => simp [Builtin.append_, run_underlying ht, sizeOf, typeInfo, hi0, Builtin.lenOf, hkc, h2, storeCells]
  refine wl_run (v := .slice A k c) (w' := w) ?_ hd (h.to hw)
  unfold Ru
  intro a _ _ _ _ hs
  simp only [execOp, resolve, List.map_toArray, List.map_cons, List.map_nil, hs.ev hx, hs.ev hy]
  simp only [invoke, builtin, Sem.run_bind, Sem.run_pure, Result.andThen_ok, hrun]
end
end Go.Proofs.Ytemhhhikopemmaa
