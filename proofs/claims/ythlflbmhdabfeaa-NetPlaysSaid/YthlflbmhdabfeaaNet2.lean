import Derived.Test.YthlflbmhdabfeaaNet1
namespace Go.Proofs.Ythlflbmhdabfeaa
open Go.RowKit
attribute [local go_sem ↓] Go.wp_at_zero Go.wp_at_succ

set_option maxHeartbeats 1600000 in
theorem Send_ok (b : Nat) (v : Value) (ls : List Lt) (s c l : Int) (f t : Int) (A : Option Addr) (m cap : Nat) (bs : List Int) (w : World)
    (hN : NetR w b v ls s c l) (hr : Reads w 1 A m (bytes bs)) (hvf : vld f = true) (hvt : vld t = true) (hft : (f == t) = false)
    (hcase : f < 3 ∧ t < 3 ∨ 3 ≤ f ∧ t < 2 ∨ 3 ≤ t ∧ f < 2)
    (hn : ls.length < 4096) (hm : m ≤ 1048576) (hs0 : 0 ≤ s) (hs1 : s < 4611686018427387904) :
    Calls Try.prog 8 #[.pointer (some ⟨b, 0, none⟩), .agg #[.int .i64 f, .int .i64 t, .slice A m cap]] w (Sent w b v ls s c l f t m bs) := by
  obtain ⟨i0, hi0, hz0, hz1, hz2⟩ := info_parts Try.info5
  obtain ⟨i1, hi1, hy0, hy1, hy2⟩ := info_parts Try.infoLetter
  have hb := hN.blk.lt
  obtain ⟨V, cv, rfl⟩ := own_form hN.own
  have c0 := hN.blk.cell 0
  have c1 := hN.blk.cell 1
  have c2 := hN.blk.cell 2
  have c3 := hN.blk.cell 3
  have f0 := hN.blk.frozen 0
  have f1 := hN.blk.frozen 1
  simp at c0 c1 c2 c3
  rcases hcase with ⟨ha, hb'⟩ | ⟨ha, hb'⟩ | ⟨ha, hb'⟩
  all_goals
    go_enter Try.func8, Try.ntmps8
    go_wp2_with (first | (go_at_call 16; refine (valid_any _ _).mono ?_; rintro e w' ⟨rfl, rfl⟩) | (at_builtin; refine wpList_app _ rfl (.tmp 75) (.tmp 77) 27 rfl 5 i0 (.int .u8 0) 1 1 Try.underlying27 hi0 hz0 hz1 hz2 rfl (by omega) _ 0 [] rfl ?_ A m cap _ rfl ?_ (one_bytes bs) (by unfold maxLen; omega) (by omega) ?_))
    · exact ⟨by simp, .inr ⟨_, 0, #[], rfl, Nat.zero_le _, by have := Blk.new (w.alloc (.cells #[.int .i64 f, .int .i64 t, .slice A m cap] 29)) 5 #[]; simpa [Blk] using this, Nat.le_refl _, by simp [maxLen], by simp, by simp⟩⟩
    · exact hr.fr (((Fr.refl Nil _).alloc _).alloc _) (fun _ _ e => e)
    intro v1 w1 hown1 hg1 hat1
    obtain ⟨V1, cp1, rfl⟩ := own_form hown1
    have hF1 : Fr Nil w w1 := (((Fr.refl Nil w).alloc _).alloc _).grown hg1 (by intro k hk hlt; simp [Value.ownBlock] at hk; omega)
    have hBl : Blk w1 w.heap.size 29 #[.int .i64 f, .int .i64 t, .slice A m cap] := ((Blk.new w _ _).alloc _).grown hg1 (by simp [Value.ownBlock])
    have hNo : ∀ k, (Value.slice V1 m cp1).ownBlock = some k → w.heap.size < k := by
      intro k hk
      rcases hat1 with e | e <;> rw [e] at hk <;> simp [Value.ownBlock] at hk <;> omega
    have hL0 := hBl.cell 2
    have hL1 := hBl.frozen 2
    simp at hL0
    go_wp2_with fail
    have hF2 : Fr Nil w (w1.setCell ⟨w.heap.size, 2, none⟩ (.slice V1 m cp1)) := hF1.setCell (.inl (Nat.le_refl _)) _
    have hB2 := hN.blk.fr hF2 (fun e => e)
    have hO2 := own_fr hN.own hF2 (fun _ _ e => e)
    have hL2 := hBl.set_ 2 (.slice V1 m cp1)
    have hR2 : (w1.setCell ⟨w.heap.size, 2, none⟩ (.slice V1 m cp1)).ownsRow 0 5 1 (.slice V1 m cp1) m (bytes bs) :=
      own_fr hown1 ((Fr.refl (fun k => k = w.heap.size) w1).setCell (.inr rfl) _) (fun k hk e => by have := hNo k hk; omega)
    simp at hL2
    generalize w1.setCell ⟨w.heap.size, 2, none⟩ (.slice V1 m cp1) = W2 at *
    generalize hH : w.heap.size = H at *
    have hbH : b < H := hb
    have hbne : b ≠ H := by omega
    have k0 := hB2.cell 0
    have k1 := hB2.frozen 0
    have m0 := hL2.cell 0
    have m1 := hL2.cell 1
    have m2 := hL2.cell 2
    have j0 := hB2.cell 1
    have j1 := hB2.frozen 1
    simp at k0 m0 m1 m2 j0
    have hHs : H < W2.heap.size := hL2.lt
    have hb2 : b < W2.heap.size := hB2.lt
    have hVb : (Value.slice V ls.length cv).ownBlock ≠ some b := own_ne hN.own hN.blk (by decide)
    have hVH : (Value.slice V ls.length cv).ownBlock ≠ some H := fun e => by have := own_lt hN.own e; omega
    have hfr : ∀ o, (W2.alloc o).frozen? ⟨b, 0, none⟩ = false := fun o => (World.frozen?_alloc_past _ _ _ hb2).trans k1
    go_region_law ((refine step_app _ (by rfl) (.tmp 84) (.tmp 86) 34 (by rfl) 29 i1 _ 3 40 Try.underlying34 hi1 hy0 hy1 hy2 rfl (by omega) (.slice V ls.length cv) ls.length (flat ls) (by rfl) (by exact hO2.alloc _) (some ⟨W2.heap.size, 0, none⟩) 1 1 [.int .i64 f, .int .i64 t, .slice V1 m cp1] (by rfl) (by exact Reads.of_blk (Blk.new W2 _ _) rfl) (by simp [Value.oneCell']) (by unfold maxLen; omega) (by omega) ?_; intro v2 w2 hown2 hg2 hat2; obtain ⟨V2, cp2, rfl⟩ := own_form hown2; have d0 := (hg2.cell_far ⟨b, 0, none⟩ (by simp; omega) (Ne.symm hVb)).trans (World.cell?_alloc_past _ _ _ hb2); have d1 := (hg2.frozen_far ⟨b, 0, none⟩ (by simp; omega) (Ne.symm hVb)).trans (hfr _); rw [k0] at d0; have d2 := (hg2.cell_far ⟨b, 1, none⟩ (by simp; omega) (Ne.symm hVb)).trans (World.cell?_alloc_past _ _ _ hb2); have d3 := (hg2.frozen_far ⟨b, 1, none⟩ (by simp; omega) (Ne.symm hVb)).trans (World.frozen?_alloc_past _ _ _ hb2); rw [j0] at d2; rw [j1] at d3))
    all_goals
      go_wp2
      go_ret
      obtain ⟨g1, g2, g3⟩ := net_push hN hF2 (((Fr.refl Nil W2).alloc _).drew) hR2 (fun k hk => by have := hNo k hk; omega) hown2 hg2 hat2
      exact ⟨rfl, g1.setCell (.inr (.inl rfl)) _, _, _, _, g2.count 1 (.int .i64 (s + 1)) rfl, g3, fun g hg => by have := hNo g (own_of_blockOf hg); omega⟩

end Go.Proofs.Ythlflbmhdabfeaa
