/- Arrays that a Reader takes: contracts. (Written by gen_pks.py.) -/
import Derived.Test.YtinomilmccopnaaPkD
import Derived.Test.YtinomilmccopnaaPkT
import Derived.Test.YtinomilmccopnaaReg
namespace Go.Proofs.Ytinomilmccopnaa
open Go.RowKit
attribute [local go_sem ↓] Go.wp_at_zero Go.wp_at_succ

def zeros (n : Nat) : List Int := List.replicate n 0

theorem RdR.nil {w w' : World} {r : Nat} {A : Option Addr} {n cap : Nat} {rest : List Int} {live : Bool} (h : RdR w r A n cap rest live) (hf : Fr Nil w w') : RdR w' r A n cap rest live :=
  ⟨h.blk.fr hf (fun e => e), h.reads.fr hf (fun _ _ e => e), h.le, h.big⟩


set_option maxRecDepth 100000 in
set_option maxHeartbeats 1600000 in
theorem RSeed_dead {w : World} {p : Option Addr} (h : Dead w p) :
    Calls Try.prog 48 #[.pointer p] w fun e w' => e = .returned (.agg #[Value.int .u8 0, Value.int .u8 0, Value.int .u8 0, Value.int .u8 0, Value.int .u8 0, Value.int .u8 0, Value.int .u8 0, Value.int .u8 0, Value.int .u8 0, Value.int .u8 0, Value.int .u8 0, Value.int .u8 0, Value.int .u8 0, Value.int .u8 0, Value.int .u8 0, Value.int .u8 0]) ∧ Fr Nil w w' := by
  go_enter Try.func48, Try.ntmps48
  go_wp2_with fail
  have hF : Fr Nil w ((w.alloc (.cells #[Value.int .u8 0, Value.int .u8 0, Value.int .u8 0, Value.int .u8 0, Value.int .u8 0, Value.int .u8 0, Value.int .u8 0, Value.int .u8 0, Value.int .u8 0, Value.int .u8 0, Value.int .u8 0, Value.int .u8 0, Value.int .u8 0, Value.int .u8 0, Value.int .u8 0, Value.int .u8 0] 84)).alloc (.cells #[Value.int .u8 0, Value.int .u8 0, Value.int .u8 0, Value.int .u8 0, Value.int .u8 0, Value.int .u8 0, Value.int .u8 0, Value.int .u8 0, Value.int .u8 0, Value.int .u8 0, Value.int .u8 0, Value.int .u8 0, Value.int .u8 0, Value.int .u8 0, Value.int .u8 0, Value.int .u8 0] 84)) := ((Fr.refl Nil w).alloc _).alloc _
  have hb0 : Blk ((w.alloc (.cells #[Value.int .u8 0, Value.int .u8 0, Value.int .u8 0, Value.int .u8 0, Value.int .u8 0, Value.int .u8 0, Value.int .u8 0, Value.int .u8 0, Value.int .u8 0, Value.int .u8 0, Value.int .u8 0, Value.int .u8 0, Value.int .u8 0, Value.int .u8 0, Value.int .u8 0, Value.int .u8 0] 84)).alloc (.cells #[Value.int .u8 0, Value.int .u8 0, Value.int .u8 0, Value.int .u8 0, Value.int .u8 0, Value.int .u8 0, Value.int .u8 0, Value.int .u8 0, Value.int .u8 0, Value.int .u8 0, Value.int .u8 0, Value.int .u8 0, Value.int .u8 0, Value.int .u8 0, Value.int .u8 0, Value.int .u8 0] 84)) w.heap.size 84 #[Value.int .u8 0, Value.int .u8 0, Value.int .u8 0, Value.int .u8 0, Value.int .u8 0, Value.int .u8 0, Value.int .u8 0, Value.int .u8 0, Value.int .u8 0, Value.int .u8 0, Value.int .u8 0, Value.int .u8 0, Value.int .u8 0, Value.int .u8 0, Value.int .u8 0, Value.int .u8 0] := (Blk.new w _ _).alloc _
  have hb1 : Blk ((w.alloc (.cells #[Value.int .u8 0, Value.int .u8 0, Value.int .u8 0, Value.int .u8 0, Value.int .u8 0, Value.int .u8 0, Value.int .u8 0, Value.int .u8 0, Value.int .u8 0, Value.int .u8 0, Value.int .u8 0, Value.int .u8 0, Value.int .u8 0, Value.int .u8 0, Value.int .u8 0, Value.int .u8 0] 84)).alloc (.cells #[Value.int .u8 0, Value.int .u8 0, Value.int .u8 0, Value.int .u8 0, Value.int .u8 0, Value.int .u8 0, Value.int .u8 0, Value.int .u8 0, Value.int .u8 0, Value.int .u8 0, Value.int .u8 0, Value.int .u8 0, Value.int .u8 0, Value.int .u8 0, Value.int .u8 0, Value.int .u8 0] 84)) (w.heap.size + 1) 84 #[Value.int .u8 0, Value.int .u8 0, Value.int .u8 0, Value.int .u8 0, Value.int .u8 0, Value.int .u8 0, Value.int .u8 0, Value.int .u8 0, Value.int .u8 0, Value.int .u8 0, Value.int .u8 0, Value.int .u8 0, Value.int .u8 0, Value.int .u8 0, Value.int .u8 0, Value.int .u8 0] := by
    have h := (Blk.new (w.alloc (.cells #[Value.int .u8 0, Value.int .u8 0, Value.int .u8 0, Value.int .u8 0, Value.int .u8 0, Value.int .u8 0, Value.int .u8 0, Value.int .u8 0, Value.int .u8 0, Value.int .u8 0, Value.int .u8 0, Value.int .u8 0, Value.int .u8 0, Value.int .u8 0, Value.int .u8 0, Value.int .u8 0] 84)) 84 #[Value.int .u8 0, Value.int .u8 0, Value.int .u8 0, Value.int .u8 0, Value.int .u8 0, Value.int .u8 0, Value.int .u8 0, Value.int .u8 0, Value.int .u8 0, Value.int .u8 0, Value.int .u8 0, Value.int .u8 0, Value.int .u8 0, Value.int .u8 0, Value.int .u8 0, Value.int .u8 0])
    simpa using h
  generalize (w.alloc (.cells #[Value.int .u8 0, Value.int .u8 0, Value.int .u8 0, Value.int .u8 0, Value.int .u8 0, Value.int .u8 0, Value.int .u8 0, Value.int .u8 0, Value.int .u8 0, Value.int .u8 0, Value.int .u8 0, Value.int .u8 0, Value.int .u8 0, Value.int .u8 0, Value.int .u8 0, Value.int .u8 0] 84)).alloc (.cells #[Value.int .u8 0, Value.int .u8 0, Value.int .u8 0, Value.int .u8 0, Value.int .u8 0, Value.int .u8 0, Value.int .u8 0, Value.int .u8 0, Value.int .u8 0, Value.int .u8 0, Value.int .u8 0, Value.int .u8 0, Value.int .u8 0, Value.int .u8 0, Value.int .u8 0, Value.int .u8 0] 84) = w0 at *
  refine D_region (fun _ => True) (fun _ => true) (by kernel_rfl) ?_
  refine D_pre (fuel := 2) (fun _ _ d _ _ h => by cases d <;> exact h) trivial [(0, .slice (some ⟨w.heap.size + 1, 0, none⟩) 16 16), (1, .pointer p)] _ _ (by kernel_rfl) ?_ ?_
  · repeat' (refine Y_cons rfl rfl (fun W' q0 => ?_) ?_)
    all_goals try simp only [Act.put]
    all_goals try exact Y_nil
    all_goals go_simp
  simp only [putAll, listAll, List.map]
  go_simp
  refine D_law (i := 2) (by kernel_rfl) rfl rfl ?_
  unfold Oper.wp
  go_simp
  refine (RRaw_dead (h.fr hF.drew) _).mono ?_
  rintro e w1 ⟨rfl, rfl⟩
  refine D_law (i := 3) (by kernel_rfl) rfl rfl ?_
  refine wp_copy_nothing (.tmp 4) (.tmp 6) rfl Try.underlying40 (by kernel_rfl) _ _ _ rfl rfl ⟨fun _ => trivial, ?_⟩
  refine D_done (by kernel_rfl) ?_ _
  go_wp2_with (first | (refine wpList_load_blk rfl 84 (.tmp 3) rfl _ rfl _ _ hb1.drew Try.underlying84 rfl 16 (by kernel_rfl) rfl ?_) | (refine wpList_store_blk rfl 84 (.tmp 2) (.tmp 8) rfl _ _ rfl rfl hb0.drew 16 (by kernel_rfl) rfl rfl (one_bytes (zeros 16)) ?_; intro w3 hB3 hF3))
  refine bodyPost_ret (results_cell_row rfl _ _ w.heap.size _ _ _ _ rfl hB3 Try.underlying84 rfl (by kernel_rfl)) rfl ⟨?_, ?_⟩
  · rfl
  · exact hF.drew.trans hF3 (fun k hk e => by omega)

set_option maxRecDepth 100000 in
set_option maxHeartbeats 1600000 in
theorem RSeed_ended {w : World} {r : Nat} {A : Option Addr} {n cap : Nat} {rest : List Int} (h : RdR w r A n cap rest true) (hn : n < 16) :
    Calls Try.prog 48 #[.pointer (some ⟨r, 0, none⟩)] w (Ended w r 3) := by
  go_enter Try.func48, Try.ntmps48
  go_wp2_with fail
  have hF : Fr Nil w ((w.alloc (.cells #[Value.int .u8 0, Value.int .u8 0, Value.int .u8 0, Value.int .u8 0, Value.int .u8 0, Value.int .u8 0, Value.int .u8 0, Value.int .u8 0, Value.int .u8 0, Value.int .u8 0, Value.int .u8 0, Value.int .u8 0, Value.int .u8 0, Value.int .u8 0, Value.int .u8 0, Value.int .u8 0] 84)).alloc (.cells #[Value.int .u8 0, Value.int .u8 0, Value.int .u8 0, Value.int .u8 0, Value.int .u8 0, Value.int .u8 0, Value.int .u8 0, Value.int .u8 0, Value.int .u8 0, Value.int .u8 0, Value.int .u8 0, Value.int .u8 0, Value.int .u8 0, Value.int .u8 0, Value.int .u8 0, Value.int .u8 0] 84)) := ((Fr.refl Nil w).alloc _).alloc _
  have hb0 : Blk ((w.alloc (.cells #[Value.int .u8 0, Value.int .u8 0, Value.int .u8 0, Value.int .u8 0, Value.int .u8 0, Value.int .u8 0, Value.int .u8 0, Value.int .u8 0, Value.int .u8 0, Value.int .u8 0, Value.int .u8 0, Value.int .u8 0, Value.int .u8 0, Value.int .u8 0, Value.int .u8 0, Value.int .u8 0] 84)).alloc (.cells #[Value.int .u8 0, Value.int .u8 0, Value.int .u8 0, Value.int .u8 0, Value.int .u8 0, Value.int .u8 0, Value.int .u8 0, Value.int .u8 0, Value.int .u8 0, Value.int .u8 0, Value.int .u8 0, Value.int .u8 0, Value.int .u8 0, Value.int .u8 0, Value.int .u8 0, Value.int .u8 0] 84)) w.heap.size 84 #[Value.int .u8 0, Value.int .u8 0, Value.int .u8 0, Value.int .u8 0, Value.int .u8 0, Value.int .u8 0, Value.int .u8 0, Value.int .u8 0, Value.int .u8 0, Value.int .u8 0, Value.int .u8 0, Value.int .u8 0, Value.int .u8 0, Value.int .u8 0, Value.int .u8 0, Value.int .u8 0] := (Blk.new w _ _).alloc _
  have hb1 : Blk ((w.alloc (.cells #[Value.int .u8 0, Value.int .u8 0, Value.int .u8 0, Value.int .u8 0, Value.int .u8 0, Value.int .u8 0, Value.int .u8 0, Value.int .u8 0, Value.int .u8 0, Value.int .u8 0, Value.int .u8 0, Value.int .u8 0, Value.int .u8 0, Value.int .u8 0, Value.int .u8 0, Value.int .u8 0] 84)).alloc (.cells #[Value.int .u8 0, Value.int .u8 0, Value.int .u8 0, Value.int .u8 0, Value.int .u8 0, Value.int .u8 0, Value.int .u8 0, Value.int .u8 0, Value.int .u8 0, Value.int .u8 0, Value.int .u8 0, Value.int .u8 0, Value.int .u8 0, Value.int .u8 0, Value.int .u8 0, Value.int .u8 0] 84)) (w.heap.size + 1) 84 #[Value.int .u8 0, Value.int .u8 0, Value.int .u8 0, Value.int .u8 0, Value.int .u8 0, Value.int .u8 0, Value.int .u8 0, Value.int .u8 0, Value.int .u8 0, Value.int .u8 0, Value.int .u8 0, Value.int .u8 0, Value.int .u8 0, Value.int .u8 0, Value.int .u8 0, Value.int .u8 0] := by
    have h := (Blk.new (w.alloc (.cells #[Value.int .u8 0, Value.int .u8 0, Value.int .u8 0, Value.int .u8 0, Value.int .u8 0, Value.int .u8 0, Value.int .u8 0, Value.int .u8 0, Value.int .u8 0, Value.int .u8 0, Value.int .u8 0, Value.int .u8 0, Value.int .u8 0, Value.int .u8 0, Value.int .u8 0, Value.int .u8 0] 84)) 84 #[Value.int .u8 0, Value.int .u8 0, Value.int .u8 0, Value.int .u8 0, Value.int .u8 0, Value.int .u8 0, Value.int .u8 0, Value.int .u8 0, Value.int .u8 0, Value.int .u8 0, Value.int .u8 0, Value.int .u8 0, Value.int .u8 0, Value.int .u8 0, Value.int .u8 0, Value.int .u8 0])
    simpa using h
  generalize (w.alloc (.cells #[Value.int .u8 0, Value.int .u8 0, Value.int .u8 0, Value.int .u8 0, Value.int .u8 0, Value.int .u8 0, Value.int .u8 0, Value.int .u8 0, Value.int .u8 0, Value.int .u8 0, Value.int .u8 0, Value.int .u8 0, Value.int .u8 0, Value.int .u8 0, Value.int .u8 0, Value.int .u8 0] 84)).alloc (.cells #[Value.int .u8 0, Value.int .u8 0, Value.int .u8 0, Value.int .u8 0, Value.int .u8 0, Value.int .u8 0, Value.int .u8 0, Value.int .u8 0, Value.int .u8 0, Value.int .u8 0, Value.int .u8 0, Value.int .u8 0, Value.int .u8 0, Value.int .u8 0, Value.int .u8 0, Value.int .u8 0] 84) = w0 at *
  refine D_region (fun _ => True) (fun _ => true) (by kernel_rfl) ?_
  refine D_pre (fuel := 2) (fun _ _ d _ _ h => by cases d <;> exact h) trivial [(0, .slice (some ⟨w.heap.size + 1, 0, none⟩) 16 16), (1, .pointer (some ⟨r, 0, none⟩))] _ _ (by kernel_rfl) ?_ ?_
  · repeat' (refine Y_cons rfl rfl (fun W' q0 => ?_) ?_)
    all_goals try simp only [Act.put]
    all_goals try exact Y_nil
    all_goals go_simp
  simp only [putAll, listAll, List.map]
  go_simp
  refine D_law (i := 2) (by kernel_rfl) rfl rfl ?_
  unfold Oper.wp
  go_simp
  refine (RRaw_ended (h.nil hF.drew) 16 (.inr (by omega))).mono ?_
  rintro e w1 ⟨rfl, hb, hF1⟩
  exact ⟨rfl, rfl, hb, (hF.drew.mono (fun _ _ e => False.elim e)).trans hF1 (fun _ _ e => e)⟩

set_option maxRecDepth 100000 in
set_option maxHeartbeats 1600000 in
theorem RSeed_ok {w : World} {r : Nat} {A : Option Addr} {n cap : Nat} {rest : List Int} (h : RdR w r A n cap rest true) (hn : 16 ≤ n) (hbig : n ≤ 70368744177664) :
    Calls Try.prog 48 #[.pointer (some ⟨r, 0, none⟩)] w fun e w' => e = .returned (.agg (bytes (rest.take 16)).toArray) ∧ Next w' r A (rest.drop 16) ∧ Fr (fun g => g = r) w w' := by
  have HB := Lib.hid hbig
  clear hbig
  go_enter Try.func48, Try.ntmps48
  go_wp2_with fail
  have hF : Fr Nil w ((w.alloc (.cells #[Value.int .u8 0, Value.int .u8 0, Value.int .u8 0, Value.int .u8 0, Value.int .u8 0, Value.int .u8 0, Value.int .u8 0, Value.int .u8 0, Value.int .u8 0, Value.int .u8 0, Value.int .u8 0, Value.int .u8 0, Value.int .u8 0, Value.int .u8 0, Value.int .u8 0, Value.int .u8 0] 84)).alloc (.cells #[Value.int .u8 0, Value.int .u8 0, Value.int .u8 0, Value.int .u8 0, Value.int .u8 0, Value.int .u8 0, Value.int .u8 0, Value.int .u8 0, Value.int .u8 0, Value.int .u8 0, Value.int .u8 0, Value.int .u8 0, Value.int .u8 0, Value.int .u8 0, Value.int .u8 0, Value.int .u8 0] 84)) := ((Fr.refl Nil w).alloc _).alloc _
  have hb0 : Blk ((w.alloc (.cells #[Value.int .u8 0, Value.int .u8 0, Value.int .u8 0, Value.int .u8 0, Value.int .u8 0, Value.int .u8 0, Value.int .u8 0, Value.int .u8 0, Value.int .u8 0, Value.int .u8 0, Value.int .u8 0, Value.int .u8 0, Value.int .u8 0, Value.int .u8 0, Value.int .u8 0, Value.int .u8 0] 84)).alloc (.cells #[Value.int .u8 0, Value.int .u8 0, Value.int .u8 0, Value.int .u8 0, Value.int .u8 0, Value.int .u8 0, Value.int .u8 0, Value.int .u8 0, Value.int .u8 0, Value.int .u8 0, Value.int .u8 0, Value.int .u8 0, Value.int .u8 0, Value.int .u8 0, Value.int .u8 0, Value.int .u8 0] 84)) w.heap.size 84 #[Value.int .u8 0, Value.int .u8 0, Value.int .u8 0, Value.int .u8 0, Value.int .u8 0, Value.int .u8 0, Value.int .u8 0, Value.int .u8 0, Value.int .u8 0, Value.int .u8 0, Value.int .u8 0, Value.int .u8 0, Value.int .u8 0, Value.int .u8 0, Value.int .u8 0, Value.int .u8 0] := (Blk.new w _ _).alloc _
  have hb1 : Blk ((w.alloc (.cells #[Value.int .u8 0, Value.int .u8 0, Value.int .u8 0, Value.int .u8 0, Value.int .u8 0, Value.int .u8 0, Value.int .u8 0, Value.int .u8 0, Value.int .u8 0, Value.int .u8 0, Value.int .u8 0, Value.int .u8 0, Value.int .u8 0, Value.int .u8 0, Value.int .u8 0, Value.int .u8 0] 84)).alloc (.cells #[Value.int .u8 0, Value.int .u8 0, Value.int .u8 0, Value.int .u8 0, Value.int .u8 0, Value.int .u8 0, Value.int .u8 0, Value.int .u8 0, Value.int .u8 0, Value.int .u8 0, Value.int .u8 0, Value.int .u8 0, Value.int .u8 0, Value.int .u8 0, Value.int .u8 0, Value.int .u8 0] 84)) (w.heap.size + 1) 84 #[Value.int .u8 0, Value.int .u8 0, Value.int .u8 0, Value.int .u8 0, Value.int .u8 0, Value.int .u8 0, Value.int .u8 0, Value.int .u8 0, Value.int .u8 0, Value.int .u8 0, Value.int .u8 0, Value.int .u8 0, Value.int .u8 0, Value.int .u8 0, Value.int .u8 0, Value.int .u8 0] := by
    have h := (Blk.new (w.alloc (.cells #[Value.int .u8 0, Value.int .u8 0, Value.int .u8 0, Value.int .u8 0, Value.int .u8 0, Value.int .u8 0, Value.int .u8 0, Value.int .u8 0, Value.int .u8 0, Value.int .u8 0, Value.int .u8 0, Value.int .u8 0, Value.int .u8 0, Value.int .u8 0, Value.int .u8 0, Value.int .u8 0] 84)) 84 #[Value.int .u8 0, Value.int .u8 0, Value.int .u8 0, Value.int .u8 0, Value.int .u8 0, Value.int .u8 0, Value.int .u8 0, Value.int .u8 0, Value.int .u8 0, Value.int .u8 0, Value.int .u8 0, Value.int .u8 0, Value.int .u8 0, Value.int .u8 0, Value.int .u8 0, Value.int .u8 0])
    simpa using h
  generalize (w.alloc (.cells #[Value.int .u8 0, Value.int .u8 0, Value.int .u8 0, Value.int .u8 0, Value.int .u8 0, Value.int .u8 0, Value.int .u8 0, Value.int .u8 0, Value.int .u8 0, Value.int .u8 0, Value.int .u8 0, Value.int .u8 0, Value.int .u8 0, Value.int .u8 0, Value.int .u8 0, Value.int .u8 0] 84)).alloc (.cells #[Value.int .u8 0, Value.int .u8 0, Value.int .u8 0, Value.int .u8 0, Value.int .u8 0, Value.int .u8 0, Value.int .u8 0, Value.int .u8 0, Value.int .u8 0, Value.int .u8 0, Value.int .u8 0, Value.int .u8 0, Value.int .u8 0, Value.int .u8 0, Value.int .u8 0, Value.int .u8 0] 84) = w0 at *
  refine D_region (fun _ => True) (fun _ => true) (by kernel_rfl) ?_
  refine D_pre (fuel := 2) (fun _ _ d _ _ h => by cases d <;> exact h) trivial [(0, .slice (some ⟨w.heap.size + 1, 0, none⟩) 16 16), (1, .pointer (some ⟨r, 0, none⟩))] _ _ (by kernel_rfl) ?_ ?_
  · repeat' (refine Y_cons rfl rfl (fun W' q0 => ?_) ?_)
    all_goals try simp only [Act.put]
    all_goals try exact Y_nil
    all_goals go_simp
  simp only [putAll, listAll, List.map]
  go_simp
  refine D_law (i := 2) (by kernel_rfl) rfl rfl ?_
  unfold Oper.wp
  go_simp
  have hrw := h.blk.lt
  refine (RRaw_ok (h.nil hF.drew) 16 hn HB.out).mono ?_
  rintro e w1 ⟨⟨P, cp, rfl, hO, hfr⟩, hR1, hF1⟩
  have hl : (rest.take 16).length = 16 := by have := len_of_reads h.reads; simp; omega
  have hB0 := hb0.drew.fr hF1 (by omega)
  have hB1 := hb1.drew.fr hF1 (by omega)
  refine D_law (i := 3) (by kernel_rfl) rfl rfl ?_
  refine wp_copy_whole (.tmp 4) (.tmp 6) rfl Try.underlying40 (by kernel_rfl) rfl rfl hB1 rfl (by omega) (Reads.of_own hO) (one_bytes _) ?_
  intro w2 hB2 hF2
  refine ⟨fun _ => trivial, ?_⟩
  refine D_done (by kernel_rfl) ?_ _
  have hC0 := hB0.fr hF2 (by omega)
  have hR3 : Next w2 r A (rest.drop 16) := hR1.fresh h (by omega) hF2 (fun k hk => by omega)
  have hFr : Fr (fun g => g = r) w w2 := ((hF.drew.mono (fun _ _ e => False.elim e)).trans hF1 (fun _ _ e => e)).trans hF2 (fun k hk e => by omega)
  have hN : 0 < n := by omega
  clear hB0 hB1 hb0 hb1 hO hR1 hF2 hF1 hF hfr
  have hsz : (bytes (rest.take 16)).toArray.size = 16 := by simpa [bytes] using hl
  go_wp2_with (first | (refine wpList_load_blk rfl 84 (.tmp 3) rfl _ rfl _ _ hB2 Try.underlying84 rfl 16 (by kernel_rfl) hsz ?_) | (refine wpList_store_blk rfl 84 (.tmp 2) (.tmp 8) rfl _ _ rfl rfl hC0 16 (by kernel_rfl) hsz rfl (one_bytes (rest.take 16)) ?_; intro w3 hB3 hF3))
  refine bodyPost_ret (results_cell_row rfl _ _ w.heap.size _ _ _ _ rfl hB3 Try.underlying84 rfl (by rw [hsz]; kernel_rfl)) rfl ⟨?_, ?_, ?_⟩
  · rfl
  · exact hR3.fresh h hN hF3 (fun k hk => by omega)
  · exact hFr.trans hF3 (fun k hk e => by omega)

set_option maxRecDepth 100000 in
set_option maxHeartbeats 1600000 in
theorem RId_dead {w : World} {p : Option Addr} (h : Dead w p) :
    Calls Try.prog 49 #[.pointer p] w fun e w' => e = .returned (.agg #[Value.int .u8 0, Value.int .u8 0, Value.int .u8 0, Value.int .u8 0, Value.int .u8 0, Value.int .u8 0, Value.int .u8 0, Value.int .u8 0, Value.int .u8 0, Value.int .u8 0, Value.int .u8 0, Value.int .u8 0, Value.int .u8 0, Value.int .u8 0, Value.int .u8 0, Value.int .u8 0]) ∧ Fr Nil w w' := by
  go_enter Try.func49, Try.ntmps49
  go_wp2_with fail
  have hF : Fr Nil w ((w.alloc (.cells #[Value.int .u8 0, Value.int .u8 0, Value.int .u8 0, Value.int .u8 0, Value.int .u8 0, Value.int .u8 0, Value.int .u8 0, Value.int .u8 0, Value.int .u8 0, Value.int .u8 0, Value.int .u8 0, Value.int .u8 0, Value.int .u8 0, Value.int .u8 0, Value.int .u8 0, Value.int .u8 0] 23)).alloc (.cells #[Value.int .u8 0, Value.int .u8 0, Value.int .u8 0, Value.int .u8 0, Value.int .u8 0, Value.int .u8 0, Value.int .u8 0, Value.int .u8 0, Value.int .u8 0, Value.int .u8 0, Value.int .u8 0, Value.int .u8 0, Value.int .u8 0, Value.int .u8 0, Value.int .u8 0, Value.int .u8 0] 23)) := ((Fr.refl Nil w).alloc _).alloc _
  have hb0 : Blk ((w.alloc (.cells #[Value.int .u8 0, Value.int .u8 0, Value.int .u8 0, Value.int .u8 0, Value.int .u8 0, Value.int .u8 0, Value.int .u8 0, Value.int .u8 0, Value.int .u8 0, Value.int .u8 0, Value.int .u8 0, Value.int .u8 0, Value.int .u8 0, Value.int .u8 0, Value.int .u8 0, Value.int .u8 0] 23)).alloc (.cells #[Value.int .u8 0, Value.int .u8 0, Value.int .u8 0, Value.int .u8 0, Value.int .u8 0, Value.int .u8 0, Value.int .u8 0, Value.int .u8 0, Value.int .u8 0, Value.int .u8 0, Value.int .u8 0, Value.int .u8 0, Value.int .u8 0, Value.int .u8 0, Value.int .u8 0, Value.int .u8 0] 23)) w.heap.size 23 #[Value.int .u8 0, Value.int .u8 0, Value.int .u8 0, Value.int .u8 0, Value.int .u8 0, Value.int .u8 0, Value.int .u8 0, Value.int .u8 0, Value.int .u8 0, Value.int .u8 0, Value.int .u8 0, Value.int .u8 0, Value.int .u8 0, Value.int .u8 0, Value.int .u8 0, Value.int .u8 0] := (Blk.new w _ _).alloc _
  have hb1 : Blk ((w.alloc (.cells #[Value.int .u8 0, Value.int .u8 0, Value.int .u8 0, Value.int .u8 0, Value.int .u8 0, Value.int .u8 0, Value.int .u8 0, Value.int .u8 0, Value.int .u8 0, Value.int .u8 0, Value.int .u8 0, Value.int .u8 0, Value.int .u8 0, Value.int .u8 0, Value.int .u8 0, Value.int .u8 0] 23)).alloc (.cells #[Value.int .u8 0, Value.int .u8 0, Value.int .u8 0, Value.int .u8 0, Value.int .u8 0, Value.int .u8 0, Value.int .u8 0, Value.int .u8 0, Value.int .u8 0, Value.int .u8 0, Value.int .u8 0, Value.int .u8 0, Value.int .u8 0, Value.int .u8 0, Value.int .u8 0, Value.int .u8 0] 23)) (w.heap.size + 1) 23 #[Value.int .u8 0, Value.int .u8 0, Value.int .u8 0, Value.int .u8 0, Value.int .u8 0, Value.int .u8 0, Value.int .u8 0, Value.int .u8 0, Value.int .u8 0, Value.int .u8 0, Value.int .u8 0, Value.int .u8 0, Value.int .u8 0, Value.int .u8 0, Value.int .u8 0, Value.int .u8 0] := by
    have h := (Blk.new (w.alloc (.cells #[Value.int .u8 0, Value.int .u8 0, Value.int .u8 0, Value.int .u8 0, Value.int .u8 0, Value.int .u8 0, Value.int .u8 0, Value.int .u8 0, Value.int .u8 0, Value.int .u8 0, Value.int .u8 0, Value.int .u8 0, Value.int .u8 0, Value.int .u8 0, Value.int .u8 0, Value.int .u8 0] 23)) 23 #[Value.int .u8 0, Value.int .u8 0, Value.int .u8 0, Value.int .u8 0, Value.int .u8 0, Value.int .u8 0, Value.int .u8 0, Value.int .u8 0, Value.int .u8 0, Value.int .u8 0, Value.int .u8 0, Value.int .u8 0, Value.int .u8 0, Value.int .u8 0, Value.int .u8 0, Value.int .u8 0])
    simpa using h
  generalize (w.alloc (.cells #[Value.int .u8 0, Value.int .u8 0, Value.int .u8 0, Value.int .u8 0, Value.int .u8 0, Value.int .u8 0, Value.int .u8 0, Value.int .u8 0, Value.int .u8 0, Value.int .u8 0, Value.int .u8 0, Value.int .u8 0, Value.int .u8 0, Value.int .u8 0, Value.int .u8 0, Value.int .u8 0] 23)).alloc (.cells #[Value.int .u8 0, Value.int .u8 0, Value.int .u8 0, Value.int .u8 0, Value.int .u8 0, Value.int .u8 0, Value.int .u8 0, Value.int .u8 0, Value.int .u8 0, Value.int .u8 0, Value.int .u8 0, Value.int .u8 0, Value.int .u8 0, Value.int .u8 0, Value.int .u8 0, Value.int .u8 0] 23) = w0 at *
  refine D_region (fun _ => True) (fun _ => true) (by kernel_rfl) ?_
  refine D_pre (fuel := 2) (fun _ _ d _ _ h => by cases d <;> exact h) trivial [(0, .slice (some ⟨w.heap.size + 1, 0, none⟩) 16 16), (1, .pointer p)] _ _ (by kernel_rfl) ?_ ?_
  · repeat' (refine Y_cons rfl rfl (fun W' q0 => ?_) ?_)
    all_goals try simp only [Act.put]
    all_goals try exact Y_nil
    all_goals go_simp
  simp only [putAll, listAll, List.map]
  go_simp
  refine D_law (i := 2) (by kernel_rfl) rfl rfl ?_
  unfold Oper.wp
  go_simp
  refine (RRaw_dead (h.fr hF.drew) _).mono ?_
  rintro e w1 ⟨rfl, rfl⟩
  refine D_law (i := 3) (by kernel_rfl) rfl rfl ?_
  refine wp_copy_nothing (.tmp 4) (.tmp 6) rfl Try.underlying40 (by kernel_rfl) _ _ _ rfl rfl ⟨fun _ => trivial, ?_⟩
  refine D_done (by kernel_rfl) ?_ _
  go_wp2_with (first | (refine wpList_load_blk rfl 23 (.tmp 3) rfl _ rfl _ _ hb1.drew Try.underlying23 rfl 16 (by kernel_rfl) rfl ?_) | (refine wpList_store_blk rfl 23 (.tmp 2) (.tmp 8) rfl _ _ rfl rfl hb0.drew 16 (by kernel_rfl) rfl rfl (one_bytes (zeros 16)) ?_; intro w3 hB3 hF3))
  refine bodyPost_ret (results_cell_row rfl _ _ w.heap.size _ _ _ _ rfl hB3 Try.underlying23 rfl (by kernel_rfl)) rfl ⟨?_, ?_⟩
  · rfl
  · exact hF.drew.trans hF3 (fun k hk e => by omega)

set_option maxRecDepth 100000 in
set_option maxHeartbeats 1600000 in
theorem RId_ended {w : World} {r : Nat} {A : Option Addr} {n cap : Nat} {rest : List Int} (h : RdR w r A n cap rest true) (hn : n < 16) :
    Calls Try.prog 49 #[.pointer (some ⟨r, 0, none⟩)] w (Ended w r 3) := by
  go_enter Try.func49, Try.ntmps49
  go_wp2_with fail
  have hF : Fr Nil w ((w.alloc (.cells #[Value.int .u8 0, Value.int .u8 0, Value.int .u8 0, Value.int .u8 0, Value.int .u8 0, Value.int .u8 0, Value.int .u8 0, Value.int .u8 0, Value.int .u8 0, Value.int .u8 0, Value.int .u8 0, Value.int .u8 0, Value.int .u8 0, Value.int .u8 0, Value.int .u8 0, Value.int .u8 0] 23)).alloc (.cells #[Value.int .u8 0, Value.int .u8 0, Value.int .u8 0, Value.int .u8 0, Value.int .u8 0, Value.int .u8 0, Value.int .u8 0, Value.int .u8 0, Value.int .u8 0, Value.int .u8 0, Value.int .u8 0, Value.int .u8 0, Value.int .u8 0, Value.int .u8 0, Value.int .u8 0, Value.int .u8 0] 23)) := ((Fr.refl Nil w).alloc _).alloc _
  have hb0 : Blk ((w.alloc (.cells #[Value.int .u8 0, Value.int .u8 0, Value.int .u8 0, Value.int .u8 0, Value.int .u8 0, Value.int .u8 0, Value.int .u8 0, Value.int .u8 0, Value.int .u8 0, Value.int .u8 0, Value.int .u8 0, Value.int .u8 0, Value.int .u8 0, Value.int .u8 0, Value.int .u8 0, Value.int .u8 0] 23)).alloc (.cells #[Value.int .u8 0, Value.int .u8 0, Value.int .u8 0, Value.int .u8 0, Value.int .u8 0, Value.int .u8 0, Value.int .u8 0, Value.int .u8 0, Value.int .u8 0, Value.int .u8 0, Value.int .u8 0, Value.int .u8 0, Value.int .u8 0, Value.int .u8 0, Value.int .u8 0, Value.int .u8 0] 23)) w.heap.size 23 #[Value.int .u8 0, Value.int .u8 0, Value.int .u8 0, Value.int .u8 0, Value.int .u8 0, Value.int .u8 0, Value.int .u8 0, Value.int .u8 0, Value.int .u8 0, Value.int .u8 0, Value.int .u8 0, Value.int .u8 0, Value.int .u8 0, Value.int .u8 0, Value.int .u8 0, Value.int .u8 0] := (Blk.new w _ _).alloc _
  have hb1 : Blk ((w.alloc (.cells #[Value.int .u8 0, Value.int .u8 0, Value.int .u8 0, Value.int .u8 0, Value.int .u8 0, Value.int .u8 0, Value.int .u8 0, Value.int .u8 0, Value.int .u8 0, Value.int .u8 0, Value.int .u8 0, Value.int .u8 0, Value.int .u8 0, Value.int .u8 0, Value.int .u8 0, Value.int .u8 0] 23)).alloc (.cells #[Value.int .u8 0, Value.int .u8 0, Value.int .u8 0, Value.int .u8 0, Value.int .u8 0, Value.int .u8 0, Value.int .u8 0, Value.int .u8 0, Value.int .u8 0, Value.int .u8 0, Value.int .u8 0, Value.int .u8 0, Value.int .u8 0, Value.int .u8 0, Value.int .u8 0, Value.int .u8 0] 23)) (w.heap.size + 1) 23 #[Value.int .u8 0, Value.int .u8 0, Value.int .u8 0, Value.int .u8 0, Value.int .u8 0, Value.int .u8 0, Value.int .u8 0, Value.int .u8 0, Value.int .u8 0, Value.int .u8 0, Value.int .u8 0, Value.int .u8 0, Value.int .u8 0, Value.int .u8 0, Value.int .u8 0, Value.int .u8 0] := by
    have h := (Blk.new (w.alloc (.cells #[Value.int .u8 0, Value.int .u8 0, Value.int .u8 0, Value.int .u8 0, Value.int .u8 0, Value.int .u8 0, Value.int .u8 0, Value.int .u8 0, Value.int .u8 0, Value.int .u8 0, Value.int .u8 0, Value.int .u8 0, Value.int .u8 0, Value.int .u8 0, Value.int .u8 0, Value.int .u8 0] 23)) 23 #[Value.int .u8 0, Value.int .u8 0, Value.int .u8 0, Value.int .u8 0, Value.int .u8 0, Value.int .u8 0, Value.int .u8 0, Value.int .u8 0, Value.int .u8 0, Value.int .u8 0, Value.int .u8 0, Value.int .u8 0, Value.int .u8 0, Value.int .u8 0, Value.int .u8 0, Value.int .u8 0])
    simpa using h
  generalize (w.alloc (.cells #[Value.int .u8 0, Value.int .u8 0, Value.int .u8 0, Value.int .u8 0, Value.int .u8 0, Value.int .u8 0, Value.int .u8 0, Value.int .u8 0, Value.int .u8 0, Value.int .u8 0, Value.int .u8 0, Value.int .u8 0, Value.int .u8 0, Value.int .u8 0, Value.int .u8 0, Value.int .u8 0] 23)).alloc (.cells #[Value.int .u8 0, Value.int .u8 0, Value.int .u8 0, Value.int .u8 0, Value.int .u8 0, Value.int .u8 0, Value.int .u8 0, Value.int .u8 0, Value.int .u8 0, Value.int .u8 0, Value.int .u8 0, Value.int .u8 0, Value.int .u8 0, Value.int .u8 0, Value.int .u8 0, Value.int .u8 0] 23) = w0 at *
  refine D_region (fun _ => True) (fun _ => true) (by kernel_rfl) ?_
  refine D_pre (fuel := 2) (fun _ _ d _ _ h => by cases d <;> exact h) trivial [(0, .slice (some ⟨w.heap.size + 1, 0, none⟩) 16 16), (1, .pointer (some ⟨r, 0, none⟩))] _ _ (by kernel_rfl) ?_ ?_
  · repeat' (refine Y_cons rfl rfl (fun W' q0 => ?_) ?_)
    all_goals try simp only [Act.put]
    all_goals try exact Y_nil
    all_goals go_simp
  simp only [putAll, listAll, List.map]
  go_simp
  refine D_law (i := 2) (by kernel_rfl) rfl rfl ?_
  unfold Oper.wp
  go_simp
  refine (RRaw_ended (h.nil hF.drew) 16 (.inr (by omega))).mono ?_
  rintro e w1 ⟨rfl, hb, hF1⟩
  exact ⟨rfl, rfl, hb, (hF.drew.mono (fun _ _ e => False.elim e)).trans hF1 (fun _ _ e => e)⟩

set_option maxRecDepth 100000 in
set_option maxHeartbeats 1600000 in
theorem RId_ok {w : World} {r : Nat} {A : Option Addr} {n cap : Nat} {rest : List Int} (h : RdR w r A n cap rest true) (hn : 16 ≤ n) (hbig : n ≤ 70368744177664) :
    Calls Try.prog 49 #[.pointer (some ⟨r, 0, none⟩)] w fun e w' => e = .returned (.agg (bytes (rest.take 16)).toArray) ∧ Next w' r A (rest.drop 16) ∧ Fr (fun g => g = r) w w' := by
  have HB := Lib.hid hbig
  clear hbig
  go_enter Try.func49, Try.ntmps49
  go_wp2_with fail
  have hF : Fr Nil w ((w.alloc (.cells #[Value.int .u8 0, Value.int .u8 0, Value.int .u8 0, Value.int .u8 0, Value.int .u8 0, Value.int .u8 0, Value.int .u8 0, Value.int .u8 0, Value.int .u8 0, Value.int .u8 0, Value.int .u8 0, Value.int .u8 0, Value.int .u8 0, Value.int .u8 0, Value.int .u8 0, Value.int .u8 0] 23)).alloc (.cells #[Value.int .u8 0, Value.int .u8 0, Value.int .u8 0, Value.int .u8 0, Value.int .u8 0, Value.int .u8 0, Value.int .u8 0, Value.int .u8 0, Value.int .u8 0, Value.int .u8 0, Value.int .u8 0, Value.int .u8 0, Value.int .u8 0, Value.int .u8 0, Value.int .u8 0, Value.int .u8 0] 23)) := ((Fr.refl Nil w).alloc _).alloc _
  have hb0 : Blk ((w.alloc (.cells #[Value.int .u8 0, Value.int .u8 0, Value.int .u8 0, Value.int .u8 0, Value.int .u8 0, Value.int .u8 0, Value.int .u8 0, Value.int .u8 0, Value.int .u8 0, Value.int .u8 0, Value.int .u8 0, Value.int .u8 0, Value.int .u8 0, Value.int .u8 0, Value.int .u8 0, Value.int .u8 0] 23)).alloc (.cells #[Value.int .u8 0, Value.int .u8 0, Value.int .u8 0, Value.int .u8 0, Value.int .u8 0, Value.int .u8 0, Value.int .u8 0, Value.int .u8 0, Value.int .u8 0, Value.int .u8 0, Value.int .u8 0, Value.int .u8 0, Value.int .u8 0, Value.int .u8 0, Value.int .u8 0, Value.int .u8 0] 23)) w.heap.size 23 #[Value.int .u8 0, Value.int .u8 0, Value.int .u8 0, Value.int .u8 0, Value.int .u8 0, Value.int .u8 0, Value.int .u8 0, Value.int .u8 0, Value.int .u8 0, Value.int .u8 0, Value.int .u8 0, Value.int .u8 0, Value.int .u8 0, Value.int .u8 0, Value.int .u8 0, Value.int .u8 0] := (Blk.new w _ _).alloc _
  have hb1 : Blk ((w.alloc (.cells #[Value.int .u8 0, Value.int .u8 0, Value.int .u8 0, Value.int .u8 0, Value.int .u8 0, Value.int .u8 0, Value.int .u8 0, Value.int .u8 0, Value.int .u8 0, Value.int .u8 0, Value.int .u8 0, Value.int .u8 0, Value.int .u8 0, Value.int .u8 0, Value.int .u8 0, Value.int .u8 0] 23)).alloc (.cells #[Value.int .u8 0, Value.int .u8 0, Value.int .u8 0, Value.int .u8 0, Value.int .u8 0, Value.int .u8 0, Value.int .u8 0, Value.int .u8 0, Value.int .u8 0, Value.int .u8 0, Value.int .u8 0, Value.int .u8 0, Value.int .u8 0, Value.int .u8 0, Value.int .u8 0, Value.int .u8 0] 23)) (w.heap.size + 1) 23 #[Value.int .u8 0, Value.int .u8 0, Value.int .u8 0, Value.int .u8 0, Value.int .u8 0, Value.int .u8 0, Value.int .u8 0, Value.int .u8 0, Value.int .u8 0, Value.int .u8 0, Value.int .u8 0, Value.int .u8 0, Value.int .u8 0, Value.int .u8 0, Value.int .u8 0, Value.int .u8 0] := by
    have h := (Blk.new (w.alloc (.cells #[Value.int .u8 0, Value.int .u8 0, Value.int .u8 0, Value.int .u8 0, Value.int .u8 0, Value.int .u8 0, Value.int .u8 0, Value.int .u8 0, Value.int .u8 0, Value.int .u8 0, Value.int .u8 0, Value.int .u8 0, Value.int .u8 0, Value.int .u8 0, Value.int .u8 0, Value.int .u8 0] 23)) 23 #[Value.int .u8 0, Value.int .u8 0, Value.int .u8 0, Value.int .u8 0, Value.int .u8 0, Value.int .u8 0, Value.int .u8 0, Value.int .u8 0, Value.int .u8 0, Value.int .u8 0, Value.int .u8 0, Value.int .u8 0, Value.int .u8 0, Value.int .u8 0, Value.int .u8 0, Value.int .u8 0])
    simpa using h
  generalize (w.alloc (.cells #[Value.int .u8 0, Value.int .u8 0, Value.int .u8 0, Value.int .u8 0, Value.int .u8 0, Value.int .u8 0, Value.int .u8 0, Value.int .u8 0, Value.int .u8 0, Value.int .u8 0, Value.int .u8 0, Value.int .u8 0, Value.int .u8 0, Value.int .u8 0, Value.int .u8 0, Value.int .u8 0] 23)).alloc (.cells #[Value.int .u8 0, Value.int .u8 0, Value.int .u8 0, Value.int .u8 0, Value.int .u8 0, Value.int .u8 0, Value.int .u8 0, Value.int .u8 0, Value.int .u8 0, Value.int .u8 0, Value.int .u8 0, Value.int .u8 0, Value.int .u8 0, Value.int .u8 0, Value.int .u8 0, Value.int .u8 0] 23) = w0 at *
  refine D_region (fun _ => True) (fun _ => true) (by kernel_rfl) ?_
  refine D_pre (fuel := 2) (fun _ _ d _ _ h => by cases d <;> exact h) trivial [(0, .slice (some ⟨w.heap.size + 1, 0, none⟩) 16 16), (1, .pointer (some ⟨r, 0, none⟩))] _ _ (by kernel_rfl) ?_ ?_
  · repeat' (refine Y_cons rfl rfl (fun W' q0 => ?_) ?_)
    all_goals try simp only [Act.put]
    all_goals try exact Y_nil
    all_goals go_simp
  simp only [putAll, listAll, List.map]
  go_simp
  refine D_law (i := 2) (by kernel_rfl) rfl rfl ?_
  unfold Oper.wp
  go_simp
  have hrw := h.blk.lt
  refine (RRaw_ok (h.nil hF.drew) 16 hn HB.out).mono ?_
  rintro e w1 ⟨⟨P, cp, rfl, hO, hfr⟩, hR1, hF1⟩
  have hl : (rest.take 16).length = 16 := by have := len_of_reads h.reads; simp; omega
  have hB0 := hb0.drew.fr hF1 (by omega)
  have hB1 := hb1.drew.fr hF1 (by omega)
  refine D_law (i := 3) (by kernel_rfl) rfl rfl ?_
  refine wp_copy_whole (.tmp 4) (.tmp 6) rfl Try.underlying40 (by kernel_rfl) rfl rfl hB1 rfl (by omega) (Reads.of_own hO) (one_bytes _) ?_
  intro w2 hB2 hF2
  refine ⟨fun _ => trivial, ?_⟩
  refine D_done (by kernel_rfl) ?_ _
  have hC0 := hB0.fr hF2 (by omega)
  have hR3 : Next w2 r A (rest.drop 16) := hR1.fresh h (by omega) hF2 (fun k hk => by omega)
  have hFr : Fr (fun g => g = r) w w2 := ((hF.drew.mono (fun _ _ e => False.elim e)).trans hF1 (fun _ _ e => e)).trans hF2 (fun k hk e => by omega)
  have hN : 0 < n := by omega
  clear hB0 hB1 hb0 hb1 hO hR1 hF2 hF1 hF hfr
  have hsz : (bytes (rest.take 16)).toArray.size = 16 := by simpa [bytes] using hl
  go_wp2_with (first | (refine wpList_load_blk rfl 23 (.tmp 3) rfl _ rfl _ _ hB2 Try.underlying23 rfl 16 (by kernel_rfl) hsz ?_) | (refine wpList_store_blk rfl 23 (.tmp 2) (.tmp 8) rfl _ _ rfl rfl hC0 16 (by kernel_rfl) hsz rfl (one_bytes (rest.take 16)) ?_; intro w3 hB3 hF3))
  refine bodyPost_ret (results_cell_row rfl _ _ w.heap.size _ _ _ _ rfl hB3 Try.underlying23 rfl (by rw [hsz]; kernel_rfl)) rfl ⟨?_, ?_, ?_⟩
  · rfl
  · exact hR3.fresh h hN hF3 (fun k hk => by omega)
  · exact hFr.trans hF3 (fun k hk e => by omega)

end Go.Proofs.Ytinomilmccopnaa
