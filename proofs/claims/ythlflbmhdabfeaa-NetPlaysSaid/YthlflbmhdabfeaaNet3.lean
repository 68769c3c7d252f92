import Derived.Test.YthlflbmhdabfeaaNet1
import Derived.Test.YthlflbmhdabfeaaReg
namespace Go.Proofs.Ythlflbmhdabfeaa
open Go.RowKit
attribute [local go_sem ↓] Go.wp_at_zero Go.wp_at_succ

/-- What take leaves: the letter at i, and the queue without it. -/
structure Took (w : World) (b : Nat) (v : Value) (ls : List Lt) (i : Nat) (x : Lt) (s c l : Int) (e : Ending) (w' : World) : Prop where
  ok : e = .returned (.agg #[.int .i64 x.f, .int .i64 x.t, .slice x.A x.m x.cap])
  fr : Fr (NetS b v) w w'
  rep : ∃ v', NetR w' b v' (ls.eraseIdx i) s c l ∧ Moved w v v'

set_option maxRecDepth 100000 in
set_option maxHeartbeats 3200000 in
theorem take_any (b : Nat) (v : Value) (ls : List Lt) (i : Nat) (x : Lt) (s c l : Int) (w : World) (hN : NetR w b v ls s c l) (hx : ls[i]? = some x) (hn : ls.length ≤ 4096) :
    Calls Try.prog 17 #[.pointer (some ⟨b, 0, none⟩), .int .i64 i] w (Took w b v ls i x s c l) := by
  obtain ⟨i1, hi1, hy0, hy1, hy2⟩ := info_parts Try.infoLetter
  have hb := hN.blk.lt
  have hi : i < ls.length := (List.getElem?_eq_some_iff.1 hx).1
  obtain ⟨g, cv, rfl, _, hg⟩ := hN.own.form (by omega)
  have c0 := hN.blk.cell 0
  have f0 := hN.blk.frozen 0
  simp at c0
  have hcell := hN.own.cellAt
  obtain ⟨e0, e1, e2⟩ := flat_get ls i x hx
  have d0 := (hcell (i * 3) (by omega)).trans e0
  have d1 := (hcell (i * 3 + 1) (by omega)).trans e1
  have d2 := (hcell (i * 3 + 2) (by omega)).trans e2
  clear hcell e0 e1 e2
  have hi0 : (0 : Int) ≤ (i : Int) := by omega
  have hi2 : (i : Int) < (ls.length : Int) := by omega
  have hi3 : (i : Int) + 1 ≤ (ls.length : Int) := by omega
  go_enter Try.func17, Try.ntmps17
  go_wp2_with fail
  have hW : Fr Nil w ((w.alloc (.cells #[.int .i64 0, .int .i64 0, .slice none 0 0] 29)).alloc (.cells #[.int .i64 x.f, .int .i64 x.t, .slice x.A x.m x.cap] 29)) := ((Fr.refl Nil w).alloc _).alloc _
  have hX := Blk.new (w.alloc (.cells #[.int .i64 0, .int .i64 0, .slice none 0 0] 29)) 29 #[.int .i64 x.f, .int .i64 x.t, .slice x.A x.m x.cap]
  have hR := (Blk.new w 29 #[.int .i64 0, .int .i64 0, .slice none 0 0]).alloc (.cells #[.int .i64 x.f, .int .i64 x.t, .slice x.A x.m x.cap] 29)
  generalize hWW : (w.alloc (.cells #[.int .i64 0, .int .i64 0, .slice none 0 0] 29)).alloc (.cells #[.int .i64 x.f, .int .i64 x.t, .slice x.A x.m x.cap] 29) = W at *
  have hX1 : Blk W (w.heap.size + 1) 29 #[.int .i64 x.f, .int .i64 x.t, .slice x.A x.m x.cap] := by simpa using hX
  have hN1 := hN.nil hW
  have k0 := hN1.blk.cell 0
  have k1 := hN1.blk.frozen 0
  simp at k0
  have hbW := hN1.blk.lt
  have hk2 : ∀ o, (W.alloc o).cell? ⟨b, 0, none⟩ = some (.slice (some ⟨g, 0, none⟩) ls.length cv) := fun o => (World.cell?_alloc_past _ _ _ hbW).trans k0
  clear hX hWW
  have hlc : (ls.length : Int) ≤ (cv : Int) := by
    obtain ⟨_, _, he, _, hle, _⟩ := own_blk hN.own (g := g) rfl
    injection he with _ _ he
    subst he
    omega
  have hic : (i : Int) ≤ (cv : Int) := by omega
  have hic1 : (i : Int) + 1 ≤ (cv : Int) := by omega
  have hcv : 0 < cv := by omega
  have hwi : IntKind.i64.wrap ((i : Int) + 1) = (i : Int) + 1 := IntWalk.i64_in _ (by omega)
  have hi4 : (0 : Int) ≤ (i : Int) + 1 := by omega
  have hi5 : ((i : Int) + 1).toNat = i + 1 := by omega
  have hRl := Reads.of_own hN1.own
  have hRt := hRl.take (k := i) (by omega)
  rw [flat_take] at hRt
  have hRd := hRl.cut (k := i + 1) (cap := cv) (by omega) (by omega)
  rw [flat_drop] at hRd
  obtain ⟨A28, hA28⟩ : ∃ A : Option Addr, A = (if cv = i + 1 then some ⟨g, 0, none⟩ else (some ⟨g, 0, none⟩ : Option Addr).map (·.add ((i + 1) * 3))) := ⟨_, rfl⟩
  rw [← hA28] at hRd
  have HA : Hid (A28 = (if cv = i + 1 then some ⟨g, 0, none⟩ else (some ⟨g, 0, none⟩ : Option Addr).map (·.add ((i + 1) * 3)))) := hA28
  have hAg : ∀ k, blockOf A28 = some k → k = g := by
    intro k hk
    rw [hA28] at hk
    split at hk
    · simpa [blockOf, eq_comm] using hk
    · simp [blockOf, add_block] at hk; omega
  clear hA28
  refine D_region (fun W' => W'.cell? ⟨b, 0, none⟩ = some (.slice (some ⟨g, 0, none⟩) ls.length cv)) (fun j => j != 19) (by kernel_rfl) ?_
  refine D_pre (fuel := 6) (fun _ _ d _ _ h => by cases d <;> exact h) k0 [(0, .pointer (some ⟨b, 0, none⟩)), (2, .pointer (some ⟨b, 0, none⟩)), (3, .pointer (some ⟨b, 0, none⟩)), (4, .pointer (some ⟨b, 0, none⟩)), (5, .slice (some ⟨g, 0, none⟩) ls.length cv), (6, .int .i64 i), (7, .slice (some ⟨g, 0, none⟩) i cv),
    (9, .pointer (some ⟨b, 0, none⟩)), (10, .pointer (some ⟨b, 0, none⟩)), (11, .pointer (some ⟨b, 0, none⟩)), (12, .slice (some ⟨g, 0, none⟩) ls.length cv), (13, .int .i64 i), (14, .int .i64 (i + 1)), (15, .slice A28 (ls.length - (i + 1)) (cv - (i + 1)))] _ _ (by kernel_rfl) ?_ ?_
  · repeat' (refine Y_cons rfl rfl (fun W' q0 => ?_) ?_)
    all_goals try simp only [Act.put]
    all_goals try exact Y_nil
    all_goals have hA28 := HA.out
    all_goals go_simp
  simp only [putAll, listAll, List.map]
  go_simp
  refine D_val (i := 1) (v := .slice (some ⟨W.heap.size, 0, none⟩) 0 0) (w' := (W.alloc (.cells #[] 29)).drew) (by kernel_rfl) rfl rfl (by go_simp) (fun _ => hk2 _) ?_
  go_simp
  refine D_law (i := 8) (by kernel_rfl) rfl rfl (wp_app _ (.tmp 14) (.tmp 20) 34 rfl 29 i1 _ 3 40 Try.underlying34 hi1 hy0 hy1 hy2 rfl (by omega) (.slice (some ⟨W.heap.size, 0, none⟩) 0 0) 0 [] rfl
    ⟨by simp, .inr ⟨_, 0, #[], rfl, Nat.zero_le _, Blk.new W _ _, Nat.le_refl _, by simp [maxLen], by simp, by simp⟩⟩ (some ⟨g, 0, none⟩) i cv (flat (ls.take i)) rfl
    (hRt.fr (((Fr.refl Nil W).alloc _).drew) (fun _ _ e => e)) (one_flat _) (by unfold maxLen; omega) (by omega) ?_)
  intro v2 w2 hown2 hg2 hat2
  obtain ⟨V2, cp2, rfl⟩ := own_form hown2
  rw [Nat.zero_add, List.nil_append] at hown2
  rw [Nat.zero_add] at hat2
  have hF2 : Fr Nil W w2 := (((Fr.refl Nil W).alloc _).drew).grown hg2 (by intro k hk hlt; simp [Value.ownBlock] at hk; omega)
  have hV2 : ∀ k, (Value.slice V2 i cp2).ownBlock = some k → W.heap.size ≤ k := by
    intro k hk
    rcases hat2 with e | e
    · rw [e] at hk; simp [Value.ownBlock] at hk; omega
    · rw [e] at hk; simp at hk; omega
  have hN2 := hN1.nil hF2
  have l0 := hN2.blk.cell 0
  simp at l0
  refine ⟨fun _ => l0, ?_⟩
  rw [Nat.zero_add]
  go_simp
  refine D_law (i := 16) (by kernel_rfl) rfl rfl (wp_app _ (.tmp 21) (.tmp 28) 34 rfl 29 i1 _ 3 40 Try.underlying34 hi1 hy0 hy1 hy2 rfl (by omega) (.slice V2 i cp2) i (flat (ls.take i)) rfl
    hown2 A28 (ls.length - (i + 1)) (cv - (i + 1)) (flat (ls.drop (i + 1))) rfl
    (hRd.fr hF2 (fun _ _ e => e)) (one_flat _) (by unfold maxLen; omega) (by omega) ?_)
  intro v3 w3 hown3 hg3 hat3
  obtain ⟨V3, cp3, rfl⟩ := own_form hown3
  have hF3 : Fr Nil W w3 := hF2.grown hg3 (by intro k hk hlt; have := hV2 k hk; omega)
  have hV3 : ∀ k, (Value.slice V3 (i + (ls.length - (i + 1))) cp3).ownBlock = some k → W.heap.size ≤ k := by
    intro k hk
    rcases hat3 with e | e
    · rw [e] at hk; exact hV2 k hk
    · rw [e] at hk; have := hF2.size; simp at hk; omega
  have hN3 := hN1.nil hF3
  have m0 := hN3.blk.cell 0
  have m1 := hN3.blk.frozen 0
  simp at m0
  refine ⟨fun _ => m0, ?_⟩
  go_simp
  refine D_val (i := 17) (v := .pointer (some ⟨b, 0, none⟩)) (w' := w3) (by kernel_rfl) rfl rfl (by go_simp) (fun _ => m0) ?_
  go_simp
  refine D_val (i := 18) (v := .pointer (some ⟨b, 0, none⟩)) (w' := w3) (by kernel_rfl) rfl rfl (by go_simp) (fun _ => m0) ?_
  go_simp
  refine D_unit (i := 19) (w' := w3.setCell ⟨b, 0, none⟩ (.slice V3 (i + (ls.length - (i + 1))) cp3)) (by kernel_rfl) rfl rfl (by go_simp) (fun h => by cases h) ?_
  go_simp
  refine D_done (by kernel_rfl) ?_ _
  have hX3 : Blk w3 (w.heap.size + 1) 29 #[.int .i64 x.f, .int .i64 x.t, .slice x.A x.m x.cap] := hX1.fr hF3 (fun e => e)
  have hR3 := hR.fr hF3 (fun e => e)
  have hS3 := hF3.size
  have hWs := hW.size
  have x0 := hX3.cell 0
  have x1 := hX3.cell 1
  have x2 := hX3.cell 2
  have y0 := hR3.cell 0
  have y1 := hR3.cell 1
  have y2 := hR3.cell 2
  have z0 := hR3.frozen 0
  have z1 := hR3.frozen 1
  have z2 := hR3.frozen 2
  simp at x0 x1 x2 y0 y1 y2
  have hbx : w.heap.size + 1 ≠ b := by omega
  have hbx' : w.heap.size ≠ b := by omega
  clear m0 m1 l0 k0 k1 c0 d0 d1 d2 hk2
  go_wp2
  refine bodyPost_ret (v := .agg #[.int .i64 x.f, .int .i64 x.t, .slice x.A x.m x.cap]) (by simp [results, Try.results17, go_sem, y0, y1, y2]) rfl ?_
  have hlen : i + (ls.length - (i + 1)) = (ls.eraseIdx i).length := by rw [List.length_eraseIdx]; split <;> omega
  have hfl : flat (ls.take i) ++ flat (ls.drop (i + 1)) = flat (ls.eraseIdx i) := by rw [← flat_app, ← List.eraseIdx_eq_take_drop_succ]
  rw [hfl] at hown3
  have hWlt := hX1.lt
  have hFf : ∀ u0 u1 u2 u3, Fr (fun k => k = b ∨ k = w.heap.size) w3 ((((w3.setCell ⟨b, 0, none⟩ u0).setCell ⟨w.heap.size, 0, none⟩ u1).setCell ⟨w.heap.size, 1, none⟩ u2).setCell ⟨w.heap.size, 2, none⟩ u3) :=
    fun u0 u1 u2 u3 => ((((Fr.refl (fun k => k = b ∨ k = w.heap.size) w3).setCell (.inr (.inl rfl)) _).setCell (.inr (.inr rfl)) _).setCell (.inr (.inr rfl)) _).setCell (.inr (.inr rfl)) _
  have hBf : ∀ u1 u2 u3, Blk ((((w3.setCell ⟨b, 0, none⟩ (.slice V3 (i + (ls.length - (i + 1))) cp3)).setCell ⟨w.heap.size, 0, none⟩ u1).setCell ⟨w.heap.size, 1, none⟩ u2).setCell ⟨w.heap.size, 2, none⟩ u3) b 46 #[.slice V3 (i + (ls.length - (i + 1))) cp3, .int .i64 s, .int .i64 c, .int .i64 l] := by
    intro u1 u2 u3
    have h := hN3.blk.set_ 0 (.slice V3 (i + (ls.length - (i + 1))) cp3)
    have h' : Blk (w3.setCell ⟨b, 0, none⟩ (.slice V3 (i + (ls.length - (i + 1))) cp3)) b 46 #[.slice V3 (i + (ls.length - (i + 1))) cp3, .int .i64 s, .int .i64 c, .int .i64 l] := by simpa using h
    exact ((h'.far (p := ⟨w.heap.size, 0, none⟩) (Ne.symm hbx') _).far (p := ⟨w.heap.size, 1, none⟩) (Ne.symm hbx') _).far (p := ⟨w.heap.size, 2, none⟩) (Ne.symm hbx') _
  obtain ⟨g1, g2, g3⟩ := net_cut (ls' := ls.eraseIdx i) hN (hW.trans hF3 (fun _ _ e => e)) (fun y hy => List.mem_of_mem_eraseIdx hy) (by rw [← hlen]; exact hown3) (fun k hk => by have := hV3 k hk; omega) (hFf _ _ _ _) (hBf _ _ _)
  exact ⟨rfl, g1, _, g2, g3⟩

end Go.Proofs.Ythlflbmhdabfeaa
