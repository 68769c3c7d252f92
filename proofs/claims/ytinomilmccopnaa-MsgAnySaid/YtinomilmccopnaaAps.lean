/- append, parted: there is room, or a new row. No program is in sight. -/
import Derived.Test.YtinomilmccopnaaApp
namespace Go.Proofs.Ytinomilmccopnaa
open Go.RowKit
section
variable {P : Program} {ops : Array Oper} {Q : Exit → Act → World → Prop} {n : Nat} {l : Env} {L L' : List Fa} {rest : List Oper} {d : Tmp} {ty t t' e : TypeId} {pos : String} {after : Array Edge} {x y : Operand} {k m c cb size bytes g : Nat} {B : Option Addr} {xs ys : List Value} {z : Value}
theorem sl_app_split (hx : ev l x = some (.slice (some ⟨g, 0, none⟩) k c)) (hp : Pick (own e size (some ⟨g, 0, none⟩) k c xs) L L') (hk : 0 < k) (hy : ev l y = some (.slice B m cb)) (hr : Vw L (fun w => Reads w size B m ys)) (hm : 0 < m) (h1 : ∀ u ∈ ys, u.oneCell' = true) (ht : P.underlying t = some (.slice e)) (hi : (P.info? e).map (fun i => (i.zero, i.size, i.bytes)) = some (some z, size, bytes)) (hzs : z.cells.size = size)
    (hd : Nat.blt d n = true) (h63 : k + m ≤ maxLen) (hby : (k + m) * bytes ≤ 140737488355328)
    (hin : k + m ≤ c → SL P ops Q rest n ((d, .slice (some ⟨g, 0, none⟩) (k + m) c) :: l) (own e size (some ⟨g, 0, none⟩) (k + m) c (xs ++ ys) :: L'))
    (hout : ∀ g' c', SL P ops Q rest n ((d, .slice (some ⟨g', 0, none⟩) (k + m) c') :: l) (own e size (some ⟨g', 0, none⟩) (k + m) c' (xs ++ ys) :: own e size (some ⟨g, 0, none⟩) k c xs :: L')) :
    SL P ops Q (⟨some d, .call { callee := .builtin .append, args := #[x, y], argTypes := #[t, t] }, ty, pos, after, none⟩ :: rest) n l L := sl_of fun w hw => by
  obtain ⟨i, hi0, hz0, hz1, hz2⟩ := info_parts hi
  subst hz1 hz2
  have h2 := hw.pick hp
  have hO : w.ownsRow 0 e i.size (.slice (some ⟨g, 0, none⟩) k c) k xs := by
    have := h2.hd
    unfold own at this
    exact this
  have hR := hr w hw
  obtain ⟨bd, rfl, hc1⟩ := hR.2 hm
  obtain ⟨cur, hB, hkc, hcm, hcs, htk, hxl⟩ := own_open hO
  have hcl : cur.toList.length = c * i.size := by simpa using hcs
  by_cases hroom : k + m ≤ c
  · have hmul : (k + m) * i.size ≤ c * i.size := Nat.mul_le_mul_right _ hroom
    rw [Nat.add_mul] at hmul
    have hyl := hR.1
    have hrun := run_append_room_src (P := P) w t t ty e i ht hi0 g 0 k c (.slice (some bd) m cb) m ys (Src.ofSlice w ht bd m cb ys hR.1 hc1 h1) hroom (fun j hj => by rw [hB.cell, Array.getElem?_eq_getElem (by omega)]; rfl) (fun j hj => hB.frozen _)
    rw [Nat.zero_add] at hrun
    have hB2 := setCells_mid ys (k * i.size) w cur.toList (by simpa using hB) (by omega)
    refine wl_run (v := .slice (some ⟨g, 0, none⟩) (k + m) c) (w' := w.setCells g (k * i.size) ys) ?_ hd ((hin hroom).to (h2.step (setCells_fr _ _ _) (fun j _ e => by rw [own_F]; exact congrArg some e.symm) (own_mk (own_close (cur := (cur.toList.take (k * i.size) ++ ys ++ cur.toList.drop (k * i.size + ys.length)).toArray) (by simpa using hB2) hroom hcm (by simp; omega) ?_ (by rw [List.length_append, Nat.add_mul]; omega))) (fun j hj => .inl (by rw [own_F] at hj ⊢; exact hj))))
    · unfold Ru
      intro a _ _ _ _ hs
      simp only [execOp, resolve, List.map_toArray, List.map_cons, List.map_nil, hs.ev hx, hs.ev hy]
      simp only [invoke, builtin, Sem.run_bind, Sem.run_pure, Result.andThen_ok, hrun]
    · rw [List.toList_toArray, htk, List.take_left']
      rw [List.length_append, Nat.add_mul]
      omega
  · have h63' : ((k + m : Nat) : Int) ≤ 9223372036854775807 := by
      have := h63
      simp [maxLen] at this
      omega
    have hcold : ∀ j v, xs[j]? = some v → w.cell? ((⟨g, 0, none⟩ : Addr).add j) = some v := fun j v hj => by
      obtain ⟨ad', e1, h3⟩ := (Reads.of_own hO).2 hk
      cases e1
      exact h3 j v hj
    have hgs : Builtin.nextslicecap (k + m) c * i.bytes ≤ 281474976710656 := growslice_fits (by omega) hby
    have hrun := run_append_grow (P := P) (w := w) t ty e i z ht hi0 hz0 ⟨g, 0, none⟩ k c xs hxl hcold bd m cb ys hR.1 hc1 (by omega) h63' hgs
    have hge := grownCap_ge w (k + m) c e
    have hle := grownCap_le_maxLen w (k + m) c e h63
    refine wl_run (v := .slice (some ⟨w.heap.size, 0, none⟩) (k + m) (grownCap w (k + m) c e)) (w' := w.drew.alloc (.cells (xs.toArray ++ ys.toArray ++ Builtin.zeroCells z.cells (grownCap w (k + m) c e - (k + m))) e)) ?_ hd ((hout w.heap.size _).to (h2.new ((Fr.refl Nil w).drew.alloc _) ?_ (fun j hj => ?_)))
    · unfold Ru
      intro a _ _ _ _ hs
      simp only [execOp, resolve, List.map_toArray, List.map_cons, List.map_nil, hs.ev hx, hs.ev hy]
      simp only [invoke, builtin, Sem.run_bind, Sem.run_pure, Result.andThen_ok, hrun]
    · have h1 := hR.1
      have h2 : (grownCap w (k + m) c e - (k + m)) * i.size = grownCap w (k + m) c e * i.size - (k + m) * i.size := Nat.sub_mul _ _ _
      have h3 : (k + m) * i.size ≤ grownCap w (k + m) c e * i.size := Nat.mul_le_mul_right _ hge
      have h4 : (k + m) * i.size = k * i.size + m * i.size := Nat.add_mul _ _ _
      refine own_mk (own_close (cur := xs.toArray ++ ys.toArray ++ Builtin.zeroCells z.cells (grownCap w (k + m) c e - (k + m))) (Blk.new w.drew e _) hge hle ?_ ?_ ?_)
      · simp only [Array.size_append, List.size_toArray, Builtin.zeroCells, Array.size_map, Array.size_range, hzs]
        omega
      · simp only [Array.toList_append, List.toList_toArray]
        rw [List.take_left']
        rw [List.length_append]
        omega
      · rw [List.length_append]
        omega
    · rw [own_F] at hj
      exact Nat.le_of_eq (Option.some.inj hj)
/-- The same under one roof: what was there before can be had back. -/
theorem sl_app_two (hx : ev l x = some (.slice (some ⟨g, 0, none⟩) k c)) (hp : Pick (own e size (some ⟨g, 0, none⟩) k c xs) L L') (hk : 0 < k) (hy : ev l y = some (.slice B m cb)) (hr : Vw L (fun w => Reads w size B m ys)) (hm : 0 < m) (h1 : ∀ u ∈ ys, u.oneCell' = true) (ht : P.underlying t = some (.slice e)) (hi : (P.info? e).map (fun i => (i.zero, i.size, i.bytes)) = some (some z, size, bytes)) (hzs : z.cells.size = size)
    (hd : Nat.blt d n = true) (h63 : k + m ≤ maxLen) (hby : (k + m) * bytes ≤ 140737488355328) (hxl : xs.length = k * size)
    (h : ∀ g' c' F, (∀ K, Ent_ (own e size (some ⟨g', 0, none⟩) (k + m) c' (xs ++ ys) :: F :: K) (own e size (some ⟨g, 0, none⟩) k c xs :: K)) → SL P ops Q rest n ((d, .slice (some ⟨g', 0, none⟩) (k + m) c') :: l) (own e size (some ⟨g', 0, none⟩) (k + m) c' (xs ++ ys) :: F :: L')) :
    SL P ops Q (⟨some d, .call { callee := .builtin .append, args := #[x, y], argTypes := #[t, t] }, ty, pos, after, none⟩ :: rest) n l L := by
  refine sl_app_split hx hp hk hy hr hm h1 ht hi hzs hd h63 hby (fun _ => ?_) (fun g' c' => h g' c' _ (fun K w hw => hw.tl))
  refine sl_sub (.cons .here (.free (f := star []) (fun w => by unfold star; exact (Sep.start w).sub Sub.nil) (fun j hj => by unfold star at hj; exact foot_nil hj) .refl)) (h g c (star []) (fun K w hw => ?_))
  have h2 := sep_less (m := k) hw .here (by omega)
  rw [List.take_left' hxl] at h2
  exact h2.sub (.cons .here (.skip .refl))
end
end Go.Proofs.Ytinomilmccopnaa
