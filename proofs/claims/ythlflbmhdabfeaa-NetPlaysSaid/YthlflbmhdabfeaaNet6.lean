import Derived.Test.YthlflbmhdabfeaaNet5
namespace Go.Proofs.Ythlflbmhdabfeaa
open Go.RowKit
attribute [local go_sem ↓] Go.wp_at_zero Go.wp_at_succ

set_option maxHeartbeats 400000 in
theorem Double_nil (i : Int) (w : World) :
    Calls Try.prog 9 #[.pointer none, .int .i64 i] w fun e w' => e = .returned (.bool false) ∧ Fr Nil w w' := by
  go_enter Try.func9, Try.ntmps9
  go_wp2_with (go_at_call 15; refine (Peek_nil _ _).mono ?_; rintro e w1 ⟨rfl, hF1⟩; unfold noLetter)
  go_ret
  exact ⟨rfl, hF1.alloc _⟩

set_option maxHeartbeats 400000 in
theorem Double_none {w : World} {b : Nat} {v : Value} {ls : List Lt} {s c l : Int} (h : NetR w b v ls s c l) (i : Int) (hi : i < 0 ∨ (ls.length : Int) ≤ i) :
    Calls Try.prog 9 #[.pointer (some ⟨b, 0, none⟩), .int .i64 i] w fun e w' => e = .returned (.bool false) ∧ Fr Nil w w' := by
  go_enter Try.func9, Try.ntmps9
  go_wp2_with (go_at_call 15; refine (Peek_none h i hi).mono ?_; rintro e w1 ⟨rfl, hF1⟩; unfold noLetter)
  go_ret
  exact ⟨rfl, hF1.alloc _⟩

set_option maxHeartbeats 400000 in
theorem Double_full {w : World} {b : Nat} {v : Value} {ls : List Lt} {s c l : Int} (h : NetR w b v ls s c l) (i : Nat) (x : Lt) (hx : ls[i]? = some x) (hn : ls.length = 4096) (hm : x.m ≤ 1048576) :
    Calls Try.prog 9 #[.pointer (some ⟨b, 0, none⟩), .int .i64 i] w fun e w' => e = .returned (.bool false) ∧ Fr Nil w w' := by
  have hN : ((ls.length : Int) == 4096) = true := by rw [hn]; rfl
  have hle : ls.length ≤ 4096 := by omega
  clear hn
  go_enter Try.func9, Try.ntmps9
  go_wp2_with (first | (go_at_call 15; refine (Peek_some h i x hx hle hm).mono ?_; rintro e w1 ⟨⟨A1, cp1, rfl, hown1, hNo⟩, hF1⟩) | (go_at_call 10; refine ((h.nil (hF1.alloc _)).len).mono ?_; rintro e w' ⟨rfl, rfl⟩))
  go_ret
  exact ⟨rfl, hF1.alloc _⟩

/-- What Double leaves. -/
structure Twice (w : World) (b : Nat) (v : Value) (ls : List Lt) (x : Lt) (s c l : Int) (e : Ending) (w' : World) : Prop where
  ok : e = .returned (.bool true)
  fr : Fr (NetS b v) w w'
  rep : ∃ v' A cap, NetR w' b v' (ls ++ [⟨x.f, x.t, A, x.m, cap, x.bs⟩]) s c l ∧ Moved w v v' ∧ ∀ g, blockOf A = some g → w.heap.size ≤ g

set_option maxHeartbeats 1600000 in
theorem Double_some {w : World} {b : Nat} {v : Value} {ls : List Lt} {s c l : Int} (h : NetR w b v ls s c l) (i : Nat) (x : Lt) (hx : ls[i]? = some x) (hn : ls.length < 4096) (hm : x.m ≤ 1048576) :
    Calls Try.prog 9 #[.pointer (some ⟨b, 0, none⟩), .int .i64 i] w (Twice w b v ls x s c l) := by
  obtain ⟨i1, hi1, hy0, hy1, hy2⟩ := info_parts Try.infoLetter
  have hN : ((ls.length : Int) == 4096) = false := by simp; omega
  obtain ⟨V, cv, rfl⟩ := own_form h.own
  have hb := h.blk.lt
  go_enter Try.func9, Try.ntmps9
  go_wp2_with (first | (go_at_call 15; refine (Peek_some h i x hx (by omega) hm).mono ?_; rintro e w1 ⟨⟨V1, cp1, rfl, hown1, hNo⟩, hF1⟩) | (go_at_call 10; refine ((h.nil (hF1.alloc _)).len).mono ?_; rintro e w' ⟨rfl, rfl⟩))
  have hF2 : Fr Nil w (w1.alloc (.cells #[.int .i64 x.f, .int .i64 x.t, .slice V1 x.m cp1] 29)) := hF1.alloc _
  have hB2 := h.blk.fr hF2 (fun e => e)
  have hO2 := own_fr h.own hF2 (fun _ _ e => e)
  have hL2 := Blk.new w1 29 #[.int .i64 x.f, .int .i64 x.t, .slice V1 x.m cp1]
  have hR2 := hown1.alloc (.cells #[.int .i64 x.f, .int .i64 x.t, .slice V1 x.m cp1] 29)
  have hs1 := hF1.size
  have hNo' : ∀ k, (Value.slice V1 x.m cp1).ownBlock = some k → w.heap.size ≤ k := by
    intro k hk
    cases V1 with
    | none => simp [Value.ownBlock] at hk
    | some ad => exact hNo k hk
  generalize w1.alloc (.cells #[.int .i64 x.f, .int .i64 x.t, .slice V1 x.m cp1] 29) = W2 at *
  generalize hH : w1.heap.size = H at *
  have hbH : b < H := by omega
  have hbne : b ≠ H := by omega
  have k0 := hB2.cell 0
  have k1 := hB2.frozen 0
  have m0 := hL2.cell 0
  have m1 := hL2.cell 1
  have m2 := hL2.cell 2
  simp at k0 m0 m1 m2
  have hHs : H < W2.heap.size := hL2.lt
  have hb2 : b < W2.heap.size := hB2.lt
  have hVb : (Value.slice V ls.length cv).ownBlock ≠ some b := own_ne h.own h.blk (by decide)
  have hfr : ∀ o, (W2.alloc o).frozen? ⟨b, 0, none⟩ = false := fun o => (World.frozen?_alloc_past _ _ _ hb2).trans k1
  go_region_law ((refine step_app _ (by rfl) (.tmp 24) (.tmp 26) 34 (by rfl) 29 i1 _ 3 40 Try.underlying34 hi1 hy0 hy1 hy2 rfl (by omega) (.slice V ls.length cv) ls.length (flat ls) (by rfl) (by exact hO2.alloc _) (some ⟨W2.heap.size, 0, none⟩) 1 1 [.int .i64 x.f, .int .i64 x.t, .slice V1 x.m cp1] (by rfl) (by exact Reads.of_blk (Blk.new W2 _ _) rfl) (by simp [Value.oneCell']) (by unfold maxLen; omega) (by omega) ?_; intro v2 w2 hown2 hg2 hat2; obtain ⟨V2, cp2, rfl⟩ := own_form hown2; have d0 := (hg2.cell_far ⟨b, 0, none⟩ (by simp; omega) (Ne.symm hVb)).trans (World.cell?_alloc_past _ _ _ hb2); have d1 := (hg2.frozen_far ⟨b, 0, none⟩ (by simp; omega) (Ne.symm hVb)).trans (hfr _); rw [k0] at d0))
  all_goals
    go_wp2
    go_ret
    obtain ⟨g1, g2, g3⟩ := net_push h hF2 (((Fr.refl Nil W2).alloc _).drew) hR2 hNo' hown2 hg2 hat2
    exact ⟨rfl, g1, _, _, _, g2, g3, fun g hg => hNo' g (own_of_blockOf hg)⟩

/-! ### What a Send refuses -/
set_option maxHeartbeats 400000 in
theorem Send_nil (f t : Int) (A : Option Addr) (m cap : Nat) (w : World) :
    Calls Try.prog 8 #[.pointer none, .agg #[.int .i64 f, .int .i64 t, .slice A m cap]] w fun e w' => e = .returned (.int .i64 1) ∧ Fr Nil w w' := by
  go_enter Try.func8, Try.ntmps8
  go_wp2
  go_ret
  exact ⟨rfl, (Fr.refl _ _).alloc _⟩

set_option maxHeartbeats 1600000 in
theorem Send_bad (b : Nat) (f t : Int) (A : Option Addr) (m cap : Nat) (w : World) (hbad : bad f t = true) :
    Calls Try.prog 8 #[.pointer (some ⟨b, 0, none⟩), .agg #[.int .i64 f, .int .i64 t, .slice A m cap]] w fun e w' => e = .returned (.int .i64 6) ∧ Fr Nil w w' := by
  by_cases hvf : vld f = true
  · by_cases hvt : vld t = true
    · by_cases hft : (f == t) = true
      · obtain rfl : f = t := by simpa using hft
        clear hbad
        go_enter Try.func8, Try.ntmps8
        go_wp2_with (go_at_call 16; refine (valid_any _ _).mono ?_; rintro e w' ⟨rfl, rfl⟩)
        go_ret
        exact ⟨rfl, (Fr.refl _ _).alloc _⟩
      · have hft' : (f == t) = false := by simpa using hft
        have hcase : 3 ≤ f ∧ t = 2 ∨ 3 ≤ t ∧ f = 2 ∨ 3 ≤ f ∧ 3 ≤ t := by
          simp [bad, hvf, hvt, hft'] at hbad
          omega
        clear hbad hft
        rcases hcase with ⟨h1, rfl⟩ | ⟨h1, rfl⟩ | ⟨h1, h2⟩
        all_goals
          go_enter Try.func8, Try.ntmps8
          go_wp2_with (go_at_call 16; refine (valid_any _ _).mono ?_; rintro e w' ⟨rfl, rfl⟩)
          all_goals
            go_ret
            exact ⟨rfl, (Fr.refl _ _).alloc _⟩
    · have hvt' : vld t = false := by simpa using hvt
      clear hbad hvt
      go_enter Try.func8, Try.ntmps8
      go_wp2_with (go_at_call 16; refine (valid_any _ _).mono ?_; rintro e w' ⟨rfl, rfl⟩)
      go_ret
      exact ⟨rfl, (Fr.refl _ _).alloc _⟩
  · have hvf' : vld f = false := by simpa using hvf
    clear hbad hvf
    go_enter Try.func8, Try.ntmps8
    go_wp2_with (go_at_call 16; refine (valid_any _ _).mono ?_; rintro e w' ⟨rfl, rfl⟩)
    go_ret
    exact ⟨rfl, (Fr.refl _ _).alloc _⟩

set_option maxHeartbeats 800000 in
theorem Send_long (b : Nat) (f t : Int) (A : Option Addr) (m cap : Nat) (w : World) (hf0 : 0 ≤ f) (hf1 : f < 3) (ht0 : 0 ≤ t) (ht1 : t < 3) (hft : (f == t) = false) (hm : 1048576 < m) (hm' : m ≤ 2000000) :
    Calls Try.prog 8 #[.pointer (some ⟨b, 0, none⟩), .agg #[.int .i64 f, .int .i64 t, .slice A m cap]] w fun e w' => e = .returned (.int .i64 4) ∧ Fr Nil w w' := by
  have hvf : vld f = true := by simp [vld]; omega
  have hvt : vld t = true := by simp [vld]; omega
  have hmi : (1048576 : Int) < (m : Int) := by omega
  go_enter Try.func8, Try.ntmps8
  go_wp2_with (go_at_call 16; refine (valid_any _ _).mono ?_; rintro e w' ⟨rfl, rfl⟩)
  go_ret
  exact ⟨rfl, (Fr.refl _ _).alloc _⟩

set_option maxHeartbeats 800000 in
theorem Send_full {w : World} {b : Nat} {v : Value} {ls : List Lt} {s c l : Int} (h : NetR w b v ls s c l) (f t : Int) (A : Option Addr) (m cap : Nat) (hf0 : 0 ≤ f) (hf1 : f < 3) (ht0 : 0 ≤ t) (ht1 : t < 3) (hft : (f == t) = false) (hm : m ≤ 1048576)
    (hn : ls.length = 4096) (hl0 : 0 ≤ l) (hl1 : l < 4611686018427387904) :
    Calls Try.prog 8 #[.pointer (some ⟨b, 0, none⟩), .agg #[.int .i64 f, .int .i64 t, .slice A m cap]] w fun e w' => e = .returned (.int .i64 18) ∧ Fr (NetS b v) w w' ∧ NetR w' b v ls s c (l + 1) := by
  have hvf : vld f = true := by simp [vld]; omega
  have hvt : vld t = true := by simp [vld]; omega
  have hN : ((ls.length : Int) == 4096) = true := by rw [hn]; rfl
  clear hn
  have hb := h.blk.lt
  obtain ⟨V, cv, rfl⟩ := own_form h.own
  have c0 := h.blk.cell 0
  have c3 := h.blk.cell 3
  have f3 := h.blk.frozen 3
  simp at c0 c3
  go_enter Try.func8, Try.ntmps8
  go_wp2_with (go_at_call 16; refine (valid_any _ _).mono ?_; rintro e w' ⟨rfl, rfl⟩)
  go_ret
  refine ⟨rfl, ?_, ?_⟩
  · exact ((Fr.refl (NetS b (.slice V ls.length cv)) w).setCell (.inr (.inl rfl)) _).alloc _
  · exact (h.count 3 _ rfl).nil ((Fr.refl Nil _).alloc _)

end Go.Proofs.Ythlflbmhdabfeaa
