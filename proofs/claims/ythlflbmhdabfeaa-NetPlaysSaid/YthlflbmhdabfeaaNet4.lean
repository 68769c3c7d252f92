import Derived.Test.YthlflbmhdabfeaaNet2
import Derived.Test.YthlflbmhdabfeaaNet3
import Derived.Deep.QuietTactic
import Derived.BigQuiet
namespace Go.Proofs.Ythlflbmhdabfeaa
open Go.RowKit
attribute [local go_sem ↓] Go.wp_at_zero Go.wp_at_succ

set_option maxHeartbeats 400000 in
theorem New_any (w : World) : Calls Try.prog 7 #[] w fun e w' => e = .returned (.pointer (some ⟨w.heap.size, 0, none⟩)) ∧ w.alloc (.cells #[.slice none 0 0, .int .i64 0, .int .i64 0, .int .i64 0] 46) = w' := by
  go_enter Try.func7, Try.ntmps7
  go_wp2
  go_ret
  exact ⟨rfl, rfl⟩

theorem net_new (w : World) : NetR (w.alloc (.cells #[.slice none 0 0, .int .i64 0, .int .i64 0, .int .i64 0] 46)) w.heap.size (.slice none 0 0) [] 0 0 0 :=
  ⟨Blk.new w _ _, World.ownsRow_nil _ _ _ _, fun x hx => by cases hx⟩

set_option maxHeartbeats 400000 in
theorem Len_nil (w : World) :
    Calls Try.prog 10 #[.pointer none] w fun e w' => e = .returned (.int .i64 0) ∧ w = w' := by
  go_enter Try.func10, Try.ntmps10
  go_wp2
  go_ret
  exact ⟨rfl, rfl⟩

set_option maxHeartbeats 400000 in
theorem Len_any (b : Nat) (A : Option Addr) (n cap : Nat) (w : World) (h : w.cell? ⟨b, 0, none⟩ = some (.slice A n cap)) :
    Calls Try.prog 10 #[.pointer (some ⟨b, 0, none⟩)] w fun e w' => e = .returned (.int .i64 n) ∧ w = w' := by
  go_enter Try.func10, Try.ntmps10
  go_wp2
  go_ret
  exact ⟨rfl, rfl⟩

theorem NetR.len {w : World} {b : Nat} {v : Value} {ls : List Lt} {s c l : Int} (h : NetR w b v ls s c l) :
    Calls Try.prog 10 #[.pointer (some ⟨b, 0, none⟩)] w fun e w' => e = .returned (.int .i64 ls.length) ∧ w = w' := by
  obtain ⟨V, cv, rfl⟩ := own_form h.own
  have c0 := h.blk.cell 0
  simp at c0
  exact Len_any b V _ cv w c0

set_option maxHeartbeats 400000 in
theorem Counts_any {w : World} {b : Nat} {v : Value} {ls : List Lt} {s c l : Int} (h : NetR w b v ls s c l) :
    Calls Try.prog 14 #[.pointer (some ⟨b, 0, none⟩)] w fun e w' => e = .returned (.tuple #[.int .i64 s, .int .i64 c, .int .i64 l]) ∧ ∃ k, w' = w.drewN k := by
  have c1 := h.blk.cell 1
  have c2 := h.blk.cell 2
  have c3 := h.blk.cell 3
  simp at c1 c2 c3
  go_enter Try.func14, Try.ntmps14
  go_wp2
  go_quiet (fail)
  go_wp2
  go_ret3
  exact ⟨rfl, _, rfl⟩

set_option maxHeartbeats 400000 in
theorem Counts_nil (w : World) :
    Calls Try.prog 14 #[.pointer none] w fun e w' => e = .returned (.tuple #[.int .i64 0, .int .i64 0, .int .i64 0]) ∧ w = w' := by
  go_enter Try.func14, Try.ntmps14
  go_wp2
  go_ret3
  exact ⟨rfl, rfl⟩

/-- What a look leaves: a copy of the letter, in new memory. -/
structure Peeked (w : World) (x : Lt) (e : Ending) (w' : World) : Prop where
  ok : ∃ A cap, e = .returned (.tuple #[.agg #[.int .i64 x.f, .int .i64 x.t, .slice A x.m cap], .bool true]) ∧ w'.ownsRow 0 5 1 (.slice A x.m cap) x.m (bytes x.bs) ∧ ∀ g, blockOf A = some g → w.heap.size ≤ g
  fr : Fr Nil w w'

def noLetter : Value := .tuple #[.agg #[.int .i64 0, .int .i64 0, .slice none 0 0], .bool false]

set_option maxHeartbeats 400000 in
theorem Peek_nil (i : Int) (w : World) :
    Calls Try.prog 15 #[.pointer none, .int .i64 i] w fun e w' => e = .returned noLetter ∧ Fr Nil w w' := by
  have hy : ((0 : Nat) : Int) = 0 := rfl
  by_cases h : i < 0
  all_goals
    go_enter Try.func15, Try.ntmps15
    go_wp2_with (go_at_call 10; refine (Len_nil _).mono ?_; rintro e w' ⟨rfl, rfl⟩)
    refine bodyPost_ret (v := noLetter) (by simp [results, Try.results15, go_sem, noLetter]) rfl ⟨rfl, ?_⟩
    repeat (first | exact Fr.refl _ _ | apply Fr.alloc)

set_option maxHeartbeats 400000 in
theorem Peek_none {w : World} {b : Nat} {v : Value} {ls : List Lt} {s c l : Int} (h : NetR w b v ls s c l) (i : Int) (hi : i < 0 ∨ (ls.length : Int) ≤ i) :
    Calls Try.prog 15 #[.pointer (some ⟨b, 0, none⟩), .int .i64 i] w fun e w' => e = .returned noLetter ∧ Fr Nil w w' := by
  by_cases h0 : i < 0
  all_goals
    go_enter Try.func15, Try.ntmps15
    go_wp2_with (go_at_call 10; refine ((h.nil ((Fr.refl Nil w).alloc _)).len).mono ?_; rintro e w' ⟨rfl, rfl⟩)
    refine bodyPost_ret (v := noLetter) (by simp [results, Try.results15, go_sem, noLetter]) rfl ⟨rfl, ?_⟩
    repeat (first | exact Fr.refl _ _ | apply Fr.alloc)

set_option maxHeartbeats 1600000 in
theorem Peek_some {w : World} {b : Nat} {v : Value} {ls : List Lt} {s c l : Int} (h : NetR w b v ls s c l) (i : Nat) (x : Lt) (hx : ls[i]? = some x) (hn : ls.length ≤ 4096) (hm : x.m ≤ 1048576) :
    Calls Try.prog 15 #[.pointer (some ⟨b, 0, none⟩), .int .i64 i] w (Peeked w x) := by
  obtain ⟨i0, hi0, hz0, hz1, hz2⟩ := info_parts Try.info5
  have hi : i < ls.length := (List.getElem?_eq_some_iff.1 hx).1
  obtain ⟨g, cv, rfl, _, hg⟩ := h.own.form (by omega)
  have hb := h.blk.lt
  have c0 := h.blk.cell 0
  simp at c0
  have hcell := h.own.cellAt
  obtain ⟨e0, e1, e2⟩ := flat_get ls i x hx
  have d0 := (hcell (i * 3) (by omega)).trans e0
  have d1 := (hcell (i * 3 + 1) (by omega)).trans e1
  have d2 := (hcell (i * 3 + 2) (by omega)).trans e2
  clear hcell e0 e1 e2
  have hr := (h.lets x (List.mem_of_getElem? hx)).1
  have h1 : (i : Int) < (ls.length : Int) := by omega
  have h0 : (0 : Int) ≤ (i : Int) := by omega
  go_enter Try.func15, Try.ntmps15
  go_wp2_with (first | (go_at_call 10; refine ((h.nil ((Fr.refl Nil w).alloc _)).len).mono ?_; rintro e w' ⟨rfl, rfl⟩) | (at_builtin; refine wpList_app _ rfl (.tmp 23) (.tmp 25) 27 rfl 5 i0 (.int .u8 0) 1 1 Try.underlying27 hi0 hz0 hz1 hz2 rfl (by omega) _ 0 [] rfl ?_ x.A x.m x.cap _ rfl ?_ (one_bytes x.bs) (by unfold maxLen; omega) (by omega) ?_))
  · exact own_empty _ _ _ _ (by simp)
  · exact hr.fr ((((Fr.refl Nil _).alloc _).alloc _).alloc _) (fun _ _ e => e)
  intro v1 w1 hown1 hg1 hat1
  obtain ⟨V1, cp1, rfl⟩ := own_form hown1
  have hF1 : Fr Nil w w1 := ((((Fr.refl Nil w).alloc _).alloc _).alloc _).grown hg1 (by intro k hk hlt; simp [Value.ownBlock] at hk; omega)
  have hNo : ∀ k, (Value.slice V1 x.m cp1).ownBlock = some k → w.heap.size + 1 < k := by
    intro k hk
    rcases hat1 with e | e <;> rw [e] at hk <;> simp [Value.ownBlock] at hk <;> omega
  have hX : Blk w1 (w.heap.size + 1) 29 #[.int .i64 x.f, .int .i64 x.t, .slice x.A x.m x.cap] := by
    refine Blk.grown ?_ hg1 (by simp [Value.ownBlock])
    have h := (Blk.new (w.alloc (.cells #[.int .i64 0, .int .i64 0, .slice none 0 0] 29)) 29 #[.int .i64 x.f, .int .i64 x.t, .slice x.A x.m x.cap]).alloc (.cells #[] 5)
    simpa using h
  have hR : Blk w1 w.heap.size 29 #[.int .i64 0, .int .i64 0, .slice none 0 0] :=
    (((Blk.new w _ _).alloc _).alloc _).grown hg1 (by simp [Value.ownBlock]; omega)
  have x0 := hX.cell 0
  have x1 := hX.cell 1
  have x2 := hX.cell 2
  have xf := hX.frozen 2
  have y0 := hR.cell 0
  have y1 := hR.cell 1
  have y2 := hR.cell 2
  have z0 := hR.frozen 0
  have z1 := hR.frozen 1
  have z2 := hR.frozen 2
  simp at x0 x1 x2 y0 y1 y2
  have hown2 : ∀ u0 u1 u2 u3 : Value, ((((w1.setCell ⟨w.heap.size + 1, 2, none⟩ u0).setCell ⟨w.heap.size, 0, none⟩ u1).setCell ⟨w.heap.size, 1, none⟩ u2).setCell ⟨w.heap.size, 2, none⟩ u3).ownsRow 0 5 1 (.slice V1 x.m cp1) x.m (bytes x.bs) :=
    fun u0 u1 u2 u3 => own_fr hown1 (((((Fr.refl (fun k => k = w.heap.size + 1 ∨ k = w.heap.size) w1).setCell (.inr (.inl rfl)) _).setCell (.inr (.inr rfl)) _).setCell (.inr (.inr rfl)) _).setCell (.inr (.inr rfl)) _) (fun k hk e => by have := hNo k hk; omega)
  clear hown1 hg1 hat1 c0 d0 d1 d2
  go_wp2
  refine bodyPost_ret (v := .tuple #[.agg #[.int .i64 x.f, .int .i64 x.t, .slice V1 x.m cp1], .bool true]) (by simp [results, Try.results15, go_sem, y0, y1, y2]) rfl ⟨⟨V1, cp1, rfl, hown2 _ _ _ _, fun k hk => ?_⟩, ?_⟩
  · cases V1 with
    | none => cases hk
    | some ad => exact Nat.le_of_lt (Nat.lt_of_succ_lt (hNo k hk))
  · exact (((hF1.setCell (.inl (Nat.le_succ _)) _).setCell (.inl (Nat.le_refl _)) _).setCell (.inl (Nat.le_refl _)) _).setCell (.inl (Nat.le_refl _)) _

end Go.Proofs.Ythlflbmhdabfeaa
