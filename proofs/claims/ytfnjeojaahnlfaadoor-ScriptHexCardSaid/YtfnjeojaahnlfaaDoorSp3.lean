/- append of zeros where there is no room; whether two rows overlap. No program is in sight. -/
import Derived.Test.YtfnjeojaahnlfaaDoorSp2
namespace Go.Proofs.YtfnjeojaahnlfaaDoor
open Go.RowKit
section
variable {P : Program} {ops : Array Oper} {Q : Exit → Act → World → Prop} {n : Nat} {l : Env} {L L' : List Fa} {rest : List Oper} {d : Tmp} {ty t t' e : TypeId} {pos : String} {after : Array Edge} {x y : Operand} {c size k m bytes : Nat} {A : Option Addr} {xs : List Value} {z : Value}
/-- The zeros of m elements. -/
def zeros (z : Value) (m : Nat) : List Value := (Builtin.zeroCells z.cells m).toList
theorem zeros_len (z : Value) (m : Nat) : (zeros z m).length = m * z.cells.size := by unfold zeros; rw [Array.length_toList, size_zeroCells]
theorem sl_app_zeros {kn : IntKind} (hx : ev l x = some (.slice A k c)) (hy : ev l y = some (.int .i64 (m : Int))) (hr : Vw L (fun w => Reads w size A k xs)) (ht : P.underlying t = some (.slice e)) (ht' : P.underlying t' = some (.int kn)) (hi : (P.info? e).map (fun i => (i.zero, i.size, i.bytes)) = some (some z, size, bytes)) (hzs : z.cells.size = size) (hsz : 0 < size)
    (hm : 0 < m) (hg : c < k + m) (hd : Nat.blt d n = true) (h63 : k + m ≤ maxLen) (hby : (k + m) * bytes ≤ 140737488355328)
    (h : ∀ g c', SL P ops Q rest n ((d, .slice (some ⟨g, 0, none⟩) (k + m) c') :: l) (own e size (some ⟨g, 0, none⟩) (k + m) c' (xs ++ zeros z m) :: L)) : SL P ops Q (⟨some d, .call { callee := .builtin .append, args := #[x, y], argTypes := #[t, t'] }, ty, pos, after, none⟩ :: rest) n l L := sl_of fun w hw => by
  obtain ⟨i, hi0, hz0, hz1, hz2⟩ := info_parts hi
  subst hz1 hz2
  have hw' := hw.nil ((Fr.refl Nil w).drew)
  have hrd := hr _ hw'
  have hcells : (Builtin.firstCells i.size k (.slice A k c)).run P w.drew = .ok xs.toArray w.drew := by
    cases A with
    | none =>
      have hk : k = 0 := by
        rcases Nat.eq_zero_or_pos k with h | h
        · exact h
        · obtain ⟨_, h2, _⟩ := hrd.2 h
          cases h2
      subst hk
      have : xs = [] := List.eq_nil_of_length_eq_zero (by simpa using hrd.1)
      subst this
      rfl
    | some ad =>
      refine run_firstCells_some (P := P) w.drew i.size k ad k c xs hrd.1 (fun j u hu => ?_)
      rcases Nat.eq_zero_or_pos k with h | h
      · subst h
        have : xs = [] := List.eq_nil_of_length_eq_zero (by simpa using hrd.1)
        subst this
        simp at hu
      · obtain ⟨ad', h1, h2⟩ := hrd.2 h
        cases h1
        exact h2 j u hu
  have hle := nextslicecap_le hg
  have hmx : (k + m) * i.bytes ≤ 140737488355328 := hby
  have h63' : ((k + m : Nat) : Int) ≤ 9223372036854775807 := by
    have h := h63
    simp [maxLen] at h
    omega
  have hfit : Builtin.nextslicecap (k + m) c * i.bytes ≤ 281474976710656 := by
    have := Nat.mul_le_mul_right i.bytes hle
    rw [Nat.mul_assoc] at this
    omega
  have h48 : m * i.bytes ≤ 281474976710656 := by
    have := Nat.mul_le_mul_right i.bytes (Nat.le_add_left m k)
    omega
  have hrun := Lib.run_append_grow_zeros (P := P) w t t' ty e i z .i64 kn ht ht' hi0 hz0 A k c xs hcells m hm hsz hg h63' h48 hfit
  have hF : Fr Nil w (w.drew.alloc (.cells (xs.toArray ++ Builtin.zeroCells z.cells m ++ Builtin.zeroCells z.cells (grownCap w (k + m) c e - (k + m))) e)) := ((Fr.refl Nil w).drew).alloc _
  refine wl_run (w' := w.drew.alloc (.cells (xs.toArray ++ Builtin.zeroCells z.cells m ++ Builtin.zeroCells z.cells (grownCap w (k + m) c e - (k + m))) e)) (v := .slice (some ⟨w.heap.size, 0, none⟩) (k + m) (grownCap w (k + m) c e)) (by
    unfold Ru
    intro a _ _ _ _ hs
    simp only [execOp, resolve, List.map_toArray, List.map_cons, List.map_nil, hs.ev hx, hs.ev hy]
    simp only [invoke, builtin, Sem.run_bind, Sem.run_pure, Result.andThen_ok, hrun]) hd ((h w.heap.size (grownCap w (k + m) c e)).to (hw.new hF ?_ (fun j hj => ?_)))
  · have hge := grownCap_ge w (k + m) c e
    have hP : World.ownsRow (w.drew.alloc (.cells (xs.toArray ++ Builtin.zeroCells z.cells m ++ Builtin.zeroCells z.cells (grownCap w (k + m) c e - (k + m))) e)) 0 e i.size (.slice (some ⟨w.heap.size, 0, none⟩) (k + m) (grownCap w (k + m) c e)) (k + m) (xs ++ zeros z m) := by
      have hxl := hrd.1
      have hzl := zeros_len z m
      rw [hzs] at hzl
      refine ⟨by rw [List.length_append, hxl, hzl, Nat.add_mul], .inr ⟨_, _, _, rfl, Nat.zero_le _, Blk.new w.drew e _, hge, grownCap_le_maxLen w (k + m) c e h63, ?_, ?_⟩⟩
      · simp only [Array.size_append, size_zeroCells, hzs, List.size_toArray, hxl]
        rw [← Nat.add_mul, ← Nat.add_mul]
        congr 1
        omega
      · simp only [Array.toList_append]
        have hl : (k + m) * i.size = (xs ++ zeros z m).length := by rw [List.length_append, hxl, hzl, Nat.add_mul]
        rw [hl]
        exact List.take_left' (by simp [zeros])
    unfold own
    exact hP
  · unfold own at hj
    have hj' : some w.heap.size = some j := hj
    exact Nat.le_of_eq (Option.some.inj hj')

/-- Two rows of their own don't overlap. -/
theorem run_overlaps_own {w : World} {g h o la ca lb cb ka kb kca kcb : Nat} {tR : TypeId} {xs ys : List Value} (hw : Sep w L) (hp : Pick (own e size (some ⟨g, 0, none⟩) ka kca xs) L L') (hq : At (own e size (some ⟨h, 0, none⟩) kb kcb ys) L') (hkb : 0 < kb) (hsz : 0 < size)
    (ht : P.underlying t = some (.slice e)) (hs : szOf P e = some size) : (Extern.SlicesOverlaps.overlaps #[t, t] #[tR] #[.slice (some ⟨g, 0, none⟩) la ca, .slice (some ⟨h, o, none⟩) lb cb]).run P w = .ok (.bool false) w := by
  have h1 := hw.pick hp
  have hA : w.ownsRow 0 e size (.slice (some ⟨g, 0, none⟩) ka kca) ka xs := by
    have := h1.hd
    unfold own at this
    exact this
  have hB : w.ownsRow 0 e size (.slice (some ⟨h, 0, none⟩) kb kcb) kb ys := by
    have := h1.tl.at hq
    unfold own at this
    exact this
  have hne : g ≠ h := by
    rintro rfl
    have := h1.apart _ hq.mem g
    unfold own at this
    exact this rfl rfl
  rcases hA.2 with ⟨h0, _⟩ | ⟨g', cap, cur, hv, _, hh, _, _, hcs, _⟩
  · cases h0
  rcases hB.2 with ⟨h0, _⟩ | ⟨h', cap', cur', hv', _, hh', hk', _, hcs', _⟩
  · cases h0
  cases hv
  cases hv'
  refine Lib.run_overlaps_apart w t tR e ht size (run_size hs) ⟨g, 0, none⟩ ⟨h, o, none⟩ la ca lb cb hne e e cur.size cur'.size ?_ ?_ ?_ ?_ ?_
  · simp [World.shape?, hh]
  · simp [World.shape?, hh']
  · rw [hcs']
    have : 0 < kcb * size := Nat.mul_pos (by omega) hsz
    omega
  · exact Blk.frozen (t := e) hh 0
  · exact Blk.frozen (t := e) hh _
end
end Go.Proofs.YtfnjeojaahnlfaaDoor
