/- Package script: a line's steps: the deferred function finds nothing to recover. -/
import Derived.Test.YtfnjeojaahnlfaaDoorWe
import Derived.Defers
import Derived.Recover
import Derived.WalkLawsBesides
import Derived.Deep.DrawnRows
namespace Go.Proofs.YtfnjeojaahnlfaaDoor
open Go.RowKit
attribute [local go_sem ↓] Go.wp_at_zero Go.wp_at_succ
set_option maxHeartbeats 800000 in
theorem line1_idle (p q : Nat) (w : World) :
    CallsD Tryd.prog 24 #[.pointer (some ⟨p, 0, none⟩), .pointer (some ⟨q, 0, none⟩)] .returning w fun e u' w' =>
      e = .returned (.tuple #[]) ∧ u' = .returning ∧ w' = w := by
  refine callsD_of_wpS Tryd.func24 rfl fun c₀ cs hu => ?_
  apply wpS_seq
  apply wpS_region
  simp [wpOpsS, go_sem, recoverD, hu, Exit.thenS, Tryd.ntmps24, Array.replicate, List.replicate]
  refine wpS_of_wp ?_
  go_wp2
  cases c₀
  simp_all [bodyPostS, results, Tryd.results24]
set_option maxHeartbeats 1600000 in
theorem line_ok {K Z : List Fa} {A : Option Addr} {c N : Nat} {ws : List (List UInt8)} {xs : List Value}
    (hst : ∀ (g : Nat) (K' : List Fa), Sub K' Z → Fn Tryd.prog 25 #[.pointer (some ⟨g, 0, none⟩)] (rdrB g A ws.length c :: K') (Ret (fun _ : Sr => True) (fun q => .slice q.A N q.c) (fun q => own 47 87 q.A N q.c xs :: rdrB g q.q.A 0 q.q.c :: K')))
    (hz : Sub K Z) :
    Fn Tryd.prog 17 #[.slice A ws.length c] K (Ret (fun _ : Option Addr × Nat => True) (fun q => .tuple #[.slice q.1 N q.2, .int .i64 0]) (fun q => own 47 87 q.1 N q.2 xs :: K)) := by
  unfold Fn
  intro w hw
  have hmf : ∀ (fn : Go.Fn) (first cap : Array Value) (w : World), (Instr.makeFunc fn first cap).run Tryd.prog w = .ok (.func fn first cap) w := fun _ _ _ _ => rfl
  have s1 : Sep (w.alloc (.cells #[.slice none 0 0] 34)) (blk w.heap.size 34 [.slice none 0 0] :: K) := hw.newBlk ((Fr.refl Nil w).alloc _) (Blk.new w _ _)
  have s2 := s1.newBlk ((Fr.refl Nil _).alloc _) (Blk.new _ 26 #[.int .i64 0])
  have s3 := s2.newBlk ((Fr.refl Nil _).alloc _) (Blk.new _ 73 #[.slice A ws.length c])
  go_enter_defers Tryd.func17, Tryd.ntmps17
  go_wp2_with fail
  have hs0 := hst (w.heap.size + 1 + 1) (blk (w.heap.size + 1) 26 [.int .i64 0] :: blk w.heap.size 34 [.slice none 0 0] :: K) (Sub.skip (Sub.skip hz))
  unfold Fn at hs0
  have hs := hs0 _ (by simpa using s3)
  clear hs0
  clear s1 s2 s3
  generalize ((w.alloc (.cells #[.slice none 0 0] 34)).alloc (.cells #[.int .i64 0] 26)).alloc (.cells #[.slice A ws.length c] 73) = w3 at *
  refine hs.mono ?_
  rintro e w' ⟨q, -, rfl, h4⟩
  have hrB := blk_at h4 (.there .here)
  have heB := blk_at h4 (.there (.there .here))
  have hoB := blk_at h4 (.there (.there (.there .here)))
  have h5 : Sep w' (blk w.heap.size 34 [.slice none 0 0] :: blk (w.heap.size + 1) 26 [.int .i64 0] :: own 47 87 q.A N q.c xs :: K) := h4.sub (by ((repeat (first | exact Sub.refl | exact Sub.nil | (apply Sub.cons; (repeat (first | exact Pick.here | apply Pick.there)); show Sub _ _) | apply Sub.skip)); first | done | fail))
  have a1 := h5.apart
  have a2 := h5.tl.apart
  have c0 := hrB.cell 0
  have c1 := hrB.frozen 0
  have c2 := heB.cell 0
  have c3 := heB.frozen 0
  have c4 := hoB.cell 0
  have c5 := hoB.frozen 0
  simp at c0 c2 c4
  clear hst hs hw
  go_wp2
  have hl1 := hoB.lt
  have hl2 := heB.lt
  have hne : w.heap.size ≠ w.heap.size + 1 := by omega
  refine leaves_cons (f := 24) (args := #[.pointer (some ⟨w.heap.size, 0, none⟩), .pointer (some ⟨w.heap.size + 1, 0, none⟩)]) (by simp) (by simp [go_sem]) ?_
  refine (line1_idle _ _ _).mono ?_
  rintro e u' w'' ⟨rfl, rfl, rfl⟩
  refine ⟨.tuple #[.slice q.A N q.c, .int .i64 0], by simp [results, Tryd.results17, go_sem, c0, c2, c4], (q.A, q.c), trivial, rfl, ?_⟩
  have hF : Fr (fun k => k = w.heap.size ∨ k = w.heap.size + 1) w' (((w'.setCell ⟨w.heap.size, 0, none⟩ (.slice q.A N q.c)).setCell ⟨w.heap.size, 0, none⟩ (.slice q.A N q.c)).setCell ⟨w.heap.size + 1, 0, none⟩ (.int .i64 0)) :=
    (((Fr.refl _ w').setCell (.inr (.inl rfl)) _).setCell (.inr (.inl rfl)) _).setCell (.inr (.inr rfl)) _
  refine h5.tl.tl.fr hF (fun k ⟨f, hf, hk⟩ e => ?_)
  rcases e with e | e
  · exact a1 f (List.mem_cons_of_mem _ hf) k (by unfold blk; exact e) hk
  · exact a2 f hf k (by unfold blk; exact e) hk
end Go.Proofs.YtfnjeojaahnlfaaDoor
