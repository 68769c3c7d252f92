import Derived.Test.YthlflbmhdabfeaaNet4
namespace Go.Proofs.Ythlflbmhdabfeaa
open Go.RowKit
attribute [local go_sem ↓] Go.wp_at_zero Go.wp_at_succ

/-- What Deliver leaves. -/
structure Came (w : World) (b : Nat) (v : Value) (ls : List Lt) (i : Nat) (x : Lt) (s c l : Int) (e : Ending) (w' : World) : Prop where
  ok : e = .returned (.tuple #[.agg #[.int .i64 x.f, .int .i64 x.t, .slice x.A x.m x.cap], .bool true])
  fr : Fr (NetS b v) w w'
  rep : ∃ v', NetR w' b v' (ls.eraseIdx i) s (c + 1) l ∧ Moved w v v'


set_option maxHeartbeats 1600000 in
theorem Deliver_some {w : World} {b : Nat} {v : Value} {ls : List Lt} {s c l : Int} (h : NetR w b v ls s c l) (i : Nat) (x : Lt) (hx : ls[i]? = some x) (hn : ls.length ≤ 4096) (hc0 : 0 ≤ c) (hc1 : c < 4611686018427387904) :
    Calls Try.prog 11 #[.pointer (some ⟨b, 0, none⟩), .int .i64 i] w (Came w b v ls i x s c l) := by
  have hi : i < ls.length := (List.getElem?_eq_some_iff.1 hx).1
  have hb := h.blk.lt
  have hbn : b ≠ w.heap.size := by omega
  have h1 : (i : Int) < (ls.length : Int) := by omega
  have h0 : (0 : Int) ≤ (i : Int) := by omega
  have hW := h.nil ((Fr.refl Nil w).alloc (.cells #[.int .i64 0, .int .i64 0, .slice none 0 0] 29))
  have hC := (h.count (c' := c + 1) 2 (.int .i64 (c + 1)) rfl).nil ((Fr.refl Nil _).alloc (.cells #[.int .i64 0, .int .i64 0, .slice none 0 0] 29))
  have c2 := h.blk.cell 2
  have f2 := h.blk.frozen 2
  simp at c2
  have hF : Fr (NetS b v) w ((w.setCell ⟨b, 2, none⟩ (.int .i64 (c + 1))).alloc (.cells #[.int .i64 0, .int .i64 0, .slice none 0 0] 29)) := ((Fr.refl (NetS b v) w).setCell (.inr (.inl rfl)) _).alloc _
  have hR := Blk.new (w.setCell ⟨b, 2, none⟩ (.int .i64 (c + 1))) 29 #[.int .i64 0, .int .i64 0, .slice none 0 0]
  have hz : (w.setCell ⟨b, 2, none⟩ (.int .i64 (c + 1))).heap.size = w.heap.size := by simp [World.setCell]
  rw [hz] at hR
  have hv : v.ownBlock ≠ some w.heap.size := fun e => by have := own_lt h.own e; omega
  go_enter Try.func11, Try.ntmps11
  go_wp2_with (first | (go_at_call 10; refine (hW.len).mono ?_; rintro e w' ⟨rfl, rfl⟩) | (go_at_call 17; refine (take_any _ _ _ i x _ _ _ _ hC hx hn).mono ?_; rintro e w1 ⟨rfl, hF1, v1, hN1, hM1⟩; have hR1 := hR.fr hF1 (by rintro (e | e); exact hbn e.symm; exact hv e); have y0 := hR1.cell 0; have y1 := hR1.cell 1; have y2 := hR1.cell 2; have z0 := hR1.frozen 0; have z1 := hR1.frozen 1; have z2 := hR1.frozen 2; simp at y0 y1 y2))
  have hFr : ∀ u1 u2 u3 : Value, Fr (fun k => k = w.heap.size) w1 (((w1.setCell ⟨w.heap.size, 0, none⟩ u1).setCell ⟨w.heap.size, 1, none⟩ u2).setCell ⟨w.heap.size, 2, none⟩ u3) :=
    fun u1 u2 u3 => (((Fr.refl (fun k => k = w.heap.size) w1).setCell (.inr rfl) _).setCell (.inr rfl) _).setCell (.inr rfl) _
  refine bodyPost_ret (v := .tuple #[.agg #[.int .i64 x.f, .int .i64 x.t, .slice x.A x.m x.cap], .bool true]) (by simp [results, Try.results11, go_sem, y0, y1, y2]) rfl ⟨rfl, ?_, v1, ?_, ?_⟩
  · refine (hF.trans hF1 (fun k _ e => e)).trans (hFr _ _ _) (fun k hk e => ?_)
    omega
  · refine hN1.fr (hFr _ _ _) (fun e => hbn e) (fun k hk e => ?_) (fun y hy k hk e => ?_)
    · rcases hM1 k hk with h2 | h2
      · rw [e] at h2; exact hv h2
      · have := hR.lt; omega
    · have := ((h.lets y (List.mem_of_mem_eraseIdx hy)).2 k hk).1
      omega
  · exact hM1.of_size hF.size

set_option maxHeartbeats 400000 in
theorem Deliver_none {w : World} {b : Nat} {v : Value} {ls : List Lt} {s c l : Int} (h : NetR w b v ls s c l) (i : Int) (hi : i < 0 ∨ (ls.length : Int) ≤ i) :
    Calls Try.prog 11 #[.pointer (some ⟨b, 0, none⟩), .int .i64 i] w fun e w' => e = .returned noLetter ∧ Fr Nil w w' := by
  by_cases h0 : i < 0
  all_goals
    go_enter Try.func11, Try.ntmps11
    go_wp2_with (go_at_call 10; refine ((h.nil ((Fr.refl Nil w).alloc _)).len).mono ?_; rintro e w' ⟨rfl, rfl⟩)
    refine bodyPost_ret (v := noLetter) (by simp [results, Try.results11, go_sem, noLetter]) rfl ⟨rfl, ?_⟩
    repeat (first | exact Fr.refl _ _ | apply Fr.alloc)

set_option maxHeartbeats 400000 in
theorem Deliver_nil (i : Int) (w : World) :
    Calls Try.prog 11 #[.pointer none, .int .i64 i] w fun e w' => e = .returned noLetter ∧ Fr Nil w w' := by
  by_cases h0 : i < 0
  all_goals
    go_enter Try.func11, Try.ntmps11
    go_wp2_with (go_at_call 10; refine (Len_nil _).mono ?_; rintro e w' ⟨rfl, rfl⟩)
    refine bodyPost_ret (v := noLetter) (by simp [results, Try.results11, go_sem, noLetter]) rfl ⟨rfl, ?_⟩
    repeat (first | exact Fr.refl _ _ | apply Fr.alloc)

set_option maxHeartbeats 400000 in
theorem Drop_none {w : World} {b : Nat} {v : Value} {ls : List Lt} {s c l : Int} (h : NetR w b v ls s c l) (i : Int) (hi : i < 0 ∨ (ls.length : Int) ≤ i) :
    Calls Try.prog 12 #[.pointer (some ⟨b, 0, none⟩), .int .i64 i] w fun e w' => e = .returned (.bool false) ∧ w = w' := by
  by_cases h0 : i < 0
  all_goals
    go_enter Try.func12, Try.ntmps12
    go_wp2_with (go_at_call 10; refine (h.len).mono ?_; rintro e w' ⟨rfl, rfl⟩)
    go_ret
    exact ⟨rfl, rfl⟩

set_option maxHeartbeats 400000 in
theorem Drop_nil (i : Int) (w : World) :
    Calls Try.prog 12 #[.pointer none, .int .i64 i] w fun e w' => e = .returned (.bool false) ∧ w = w' := by
  by_cases h0 : i < 0
  all_goals
    go_enter Try.func12, Try.ntmps12
    go_wp2_with (go_at_call 10; refine (Len_nil _).mono ?_; rintro e w' ⟨rfl, rfl⟩)
    go_ret
    exact ⟨rfl, rfl⟩

/-- What Drop leaves. -/
structure Lost (w : World) (b : Nat) (v : Value) (ls : List Lt) (i : Nat) (s c l : Int) (e : Ending) (w' : World) : Prop where
  ok : e = .returned (.bool true)
  fr : Fr (NetS b v) w w'
  rep : ∃ v', NetR w' b v' (ls.eraseIdx i) s c (l + 1) ∧ Moved w v v'

set_option maxHeartbeats 1600000 in
theorem Drop_some {w : World} {b : Nat} {v : Value} {ls : List Lt} {s c l : Int} (h : NetR w b v ls s c l) (i : Nat) (x : Lt) (hx : ls[i]? = some x) (hn : ls.length ≤ 4096) (hl0 : 0 ≤ l) (hl1 : l < 4611686018427387904) :
    Calls Try.prog 12 #[.pointer (some ⟨b, 0, none⟩), .int .i64 i] w (Lost w b v ls i s c l) := by
  have hi : i < ls.length := (List.getElem?_eq_some_iff.1 hx).1
  have h1 : (i : Int) < (ls.length : Int) := by omega
  have h0 : (0 : Int) ≤ (i : Int) := by omega
  go_enter Try.func12, Try.ntmps12
  go_wp2_with (first | (go_at_call 10; refine (h.len).mono ?_; rintro e w' ⟨rfl, rfl⟩) | (go_at_call 17; refine (take_any _ _ _ i x _ _ _ _ h hx hn).mono ?_; rintro e w1 ⟨rfl, hF1, v1, hN1, hM1⟩; have y0 := hN1.blk.cell 3; have z0 := hN1.blk.frozen 3; simp at y0))
  go_ret
  exact ⟨rfl, hF1.setCell (.inr (.inl rfl)) _, v1, hN1.count 3 _ rfl, hM1⟩

end Go.Proofs.Ythlflbmhdabfeaa
