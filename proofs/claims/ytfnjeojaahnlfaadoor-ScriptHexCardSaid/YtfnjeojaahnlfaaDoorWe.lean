/- Package script: the steps of a line: ticks; a crash of the helper. -/
import Derived.Test.YtfnjeojaahnlfaaDoorWd
namespace Go.Proofs.YtfnjeojaahnlfaaDoor
open Go.RowKit
attribute [local irreducible] Go.Calls Go.Exit.then Go.Exit.inBlock Go.bodyPost Go.Code.wp Go.wpList
structure St0 where
  k : Int
  a : Int
  n : Int
def stC (s : St0) : List Value := [.int .i64 s.k, .int .i64 s.a, .int .u64 s.n] ++ List.replicate 16 (.int .u8 0) ++ [.slice none 0 0] ++ List.replicate 64 (.int .u8 0) ++ [.slice none 0 0, .slice none 0 0, .slice none 0 0]
theorem stC_len (s : St0) : (stC s).length = 87 := rfl
theorem stC_one (s : St0) : ∀ v ∈ stC s, v.oneCell' = true := fun v hv => by
  have h : (stC s).all (fun v => v.oneCell') = true := rfl
  exact List.all_eq_true.1 h v hv
def zSt : St0 := ⟨0, 0, 0⟩
def tSt : St0 := ⟨1, 0, 0⟩
theorem made_gen {X : Type} {C : X → List Value} {z : X} {sz : Nat} (hC : ∀ s, (C s).length = sz) (h0 : 0 < sz) (n : Nat) : (madeCells (C z).toArray (n * sz)).toList.take (n * sz) = rows C (List.replicate n z) := by
  rw [List.take_of_length_le (by simp [size_madeCells])]
  apply List.ext_getElem?
  intro i
  by_cases hi : i < n * sz
  · have h1 : i / sz < n := (Nat.div_lt_iff_lt_mul h0).2 hi
    have h2 : i % sz < sz := Nat.mod_lt _ h0
    have h3 : (C z)[i % sz]? = some ((C z)[i % sz]'(by rw [hC]; exact h2)) := List.getElem?_eq_getElem _
    have h4 := rows_mid hC (ss := List.replicate n z) (i := i / sz) (s := z) (by rw [List.getElem?_replicate, if_pos h1]) (i % sz) _ h3
    rw [Nat.div_add_mod' i sz] at h4
    rw [h4]
    simp only [madeCells, Array.toList_map, Array.toList_range, List.getElem?_map]
    rw [List.getElem?_range hi]
    simp only [Option.map_some, List.size_toArray, hC]
    rw [getElem!_pos _ _ (by simpa [hC] using h2)]
    simp
  · rw [List.getElem?_eq_none (by simp [size_madeCells]; omega), List.getElem?_eq_none (by rw [rows_len hC, List.length_replicate]; omega)]
theorem cmpF {a b : List UInt8} (h : decide (a = b) = false) : ((sOf a).toList == (sOf b).toList) = false := by rw [sOf_eq, h]
theorem stC_set1 (s : St0) (v : Int) : (stC s).set 0 (.int .i64 v) = stC { s with k := v } := rfl
abbrev lTick : List UInt8 := [116, 105, 99, 107]
abbrev lCrash : List UInt8 := [99, 114, 97, 115, 104]
structure Sr where
  A : Option Addr
  c : Nat
  q : Wr2
theorem ticks_mid {n j : Nat} (hj : j < n) : (List.replicate j tSt ++ List.replicate (n - j) zSt)[j]? = some zSt := by
  rw [List.getElem?_append_right (by simp), List.length_replicate, Nat.sub_self, List.getElem?_replicate, if_pos (by omega)]
theorem ticks_set {n j : Nat} (hj : j < n) : (List.replicate j tSt ++ List.replicate (n - j) zSt).set j tSt = List.replicate (j + 1) tSt ++ List.replicate (n - (j + 1)) zSt := by
  rw [List.set_append_right _ _ (by simp), List.length_replicate, Nat.sub_self]
  obtain ⟨m, hm⟩ : ∃ m, n - j = m + 1 := ⟨n - j - 1, by omega⟩
  rw [hm, List.replicate_succ, List.set_cons_zero, show n - (j + 1) = m from by omega, List.replicate_succ', List.append_assoc]
  rfl
theorem infoSt : (Tryd.prog.info? 47).map (fun i => (i.zero, i.size, i.bytes)) = some (some (.agg (stC zSt).toArray), 87, 200) := by kernel_rfl
theorem nth_We {φ : Prop} (h : φ := by (first | rfl | rfl)) : φ := h
theorem mid_We {φ : Prop} (h : φ := by (first | exact Mid.all | exact Mid.all | exact Mid.head)) : φ := h
theorem sz_We {φ : Prop} (h : φ := by (first | rfl | (rfl; first | done | fail))) : φ := h
theorem one_We {φ : Prop} (h : φ := by (first | assumption | exact one_bytes _ | (simp only [List.mem_cons, List.not_mem_nil, or_false, forall_eq_or_imp, forall_eq]; decide) | exact one_bytes _ | (intro v hv; (repeat (rcases List.mem_cons.1 hv with rfl | hv; rfl)); cases hv))) : φ := h
theorem set_We {φ : Prop} (h : φ := by (first | (fail) | ((repeat (first | exact SetAt.here | apply SetAt.there)); first | done | fail))) : φ := h
theorem cl_We {φ : Prop} (h : φ := by first | rfl | exact .t | exact .f | exact .t (by omega) | exact .f (by omega) | exact .u | exact .i (by (first | exact .t (by omega) | exact .f (by omega) | exact .u | exact .i (by omega) | exact .v (by omega) | exact .b (by omega) | exact .w | rfl | omega)) | exact .v (by omega) | exact .b (by omega) | exact .q (by omega) | exact .w | exact .b (by exact at_) rfl (by exact nth_We) | exact .w (by exact at_) rfl rfl (by exact sz_We) | exact .s (by exact at_) (by exact mid_We) rfl rfl (by exact sz_We) | exact .z rfl rfl ⟨by kernel_rfl⟩ | exact .b rfl rfl ⟨by kernel_rfl⟩ | exact .a rfl rfl ⟨by kernel_rfl⟩ | exact .o rfl | exact .s | exact .n | exact .p rfl | exact .q rfl | exact .c rfl | exact .d rfl | exact .n rfl rfl (by omega) | exact .a rfl rfl (by omega) | exact .p rfl rfl (by omega) (by omega) | exact .y rfl rfl (by omega) (by omega) | exact .o (by exact at_) (by omega) rfl (by exact nth_We) | exact .m (by exact at_) (by omega) (by exact mid_We) rfl rfl (by exact sz_We) | exact .mlen (by exact at_) rfl | exact .t (by exact at_) rfl rfl (by first | exact True.intro | rfl) (by assumption) | exact .f (by exact at_) rfl rfl (by first | exact True.intro | rfl) (by assumption) rfl | exact .t1 (by exact at_) rfl rfl (by first | exact True.intro | rfl) (by assumption) | exact .f1 (by exact at_) rfl rfl (by first | exact True.intro | rfl) (by assumption) rfl | exact .r rfl rfl (by omega) (by omega) (by exact nth_We) rfl | exact .s rfl (by omega) (by assumption) | exact at_ | assumption | exact .r rfl rfl | exact .h rfl rfl rfl (by omega) | exact .l rfl rfl rfl (by omega) (by omega) | exact .g rfl rfl rfl rfl (by omega) (by omega) | exact .h rfl rfl (toN_ (by omega)) (by omega) | exact .l rfl rfl (toN_ (by omega)) (by omega) (by omega) | exact .g rfl rfl (toN_ (by omega)) (toN_ (by omega)) (by omega) (by omega) | exact .o (by decide) | exact .f (by decide) | exact .n (by omega) (by first | decide | (show _ ≤ ((64 : Nat) : Int); omega)) | (constructor; (repeat (first | exact .t (by omega) | exact .f (by omega) | exact .u | exact .i (by omega) | exact .v (by omega) | exact .b (by omega) | exact .w | rfl | omega)); first | done | fail) | omega | (show _ ≤ ((64 : Nat) : Int); omega)) : φ := h
theorem pv_We {φ : Prop} (h : φ := by constructor; (repeat exact cl_We); first | done | fail) : φ := h
theorem su_We {φ ψ : Prop} (k : ψ) (h : Hide ψ → φ := by (intro k; (first | refine sl_pu (PuI.sep (by exact pv_We)) rfl ?_ | refine sl_yes rfl rfl ?_ | refine sl_no rfl rfl rfl ?_ | refine sl_off rfl rfl rfl ?_ | (fail)); exact k.out)) : φ := h ⟨k⟩
theorem rq_We {φ ψ : Prop} (k : ψ) (h : Hide ψ → φ := by (intro k; (first | refine wq_pu (PuI.sep (by exact pv_We)) rfl ?_ | refine wq_yes rfl rfl ?_ | refine wq_no rfl rfl rfl ?_ | refine wq_off rfl rfl rfl ?_ | (fail)); exact k.out)) : φ := h ⟨k⟩
theorem sto_We {φ ψ : Prop} (k : ψ) (h : Hide ψ → φ := by (intro k; (first | refine sl_store rfl (by exact pick_) rfl rfl (by kernel_rfl) (by exact set_We) ?_ | refine sl_store_whole rfl (by exact pick_) rfl (by exact sz_We) (by exact sz_We) (by exact one_We) ?_); exact k.out)) : φ := h ⟨k⟩
theorem go_We {φ ψ : Prop} (k : ψ) (h : Hide ψ → φ := by (intro k; (repeat (first | refine su_We ?_ | refine so_ ?_ | refine sto_We ?_)); exact k.out)) : φ := h ⟨k⟩
set_option maxRecDepth 100000 in
set_option maxHeartbeats 4000000 in
theorem steps_tick {K Z : List Fa} {g c n : Nat} {A : Option Addr} {ws : List (List UInt8)} (hz : Sub K Z) (h : Wds Z A c (lTick :: ws)) (hc : ws = [] ∧ n = 1 ∨ ∃ x, ws = [x] ∧ numL x 4096 = (n, true) ∧ x.length ≤ 1048576) (hn : n ≤ 4096) :
    Fn Tryd.prog 25 #[.pointer (some ⟨g, 0, none⟩)] (rdrB g A (lTick :: ws).length c :: K) (Ret (fun _ : Sr => True) (fun q => .slice q.A n q.c) (fun q => own 47 87 q.A n q.c (rows stC (List.replicate n tSt)) :: rdrB g q.q.A 0 q.q.c :: K)) := by
  refine fn_enter Tryd.func25 rfl _ Tryd.ntmps25 (by simp) [(0, .pointer (some ⟨g, 0, none⟩))] (args_of (by simp)) ?_
  refine go_We ?_
  refine sl_alloc rfl rfl rfl ?_; intro g3
  refine go_We ?_
  refine sl_call rfl rfl (by kernel_rfl) rfl (by exact sub_) (word_ok hz h) ?_; rintro q hq
  refine go_We ?_
  refine sc_join (α := Wr2) (fun _ => [(4, .int .u64 n)]) (fun q => rdrB g q.A 0 q.c :: K) (fun _ => True) ?_ ?_
  · rcases hc with ⟨rfl, rfl⟩ | ⟨x, rfl, h1, h2⟩
    · refine sc_if rfl (fun e => by simp at e) (fun _ => ?_)
      refine go_We ?_
      exact se_mid q (by exact has_) (by exact sub_) trivial
    · refine sc_if rfl (fun _ => ?_) (fun e => by simp at e)
      refine go_We ?_
      refine sl_call rfl rfl (by kernel_rfl) rfl (by exact sub_) (rnumber_ok (most := 4096) hz hq h2 (by decide) h1) ?_; rintro q2 hq2
      refine go_We ?_
      exact se_mid q2 (by exact has_) (by exact sub_) trivial
  rintro q2 -
  refine go_We ?_
  refine sl_make (lo := .tmp 0) (i := default) (k := n) (c := n) (bytes := 200) (size := 87) (z := .agg (stC zSt).toArray) (e := 47) rfl rfl rfl infoSt (Nat.le_refl _) (by omega) (by unfold maxLen; omega) rfl ?_
  intro g4
  rw [show ((madeCells (Value.agg (stC zSt).toArray).cells (n * 87)).toList.take (n * 87)) = rows stC (List.replicate n zSt) from made_gen stC_len (by decide) n]
  refine go_We ?_
  refine sc_for (fun p : Nat => [(5, .slice (some ⟨g4, 0, none⟩) n n), (25, .int .i64 n), (26, .int .i64 p)]) (fun p => own 47 87 (some ⟨g4, 0, none⟩) n n (rows stC (List.replicate p tSt ++ List.replicate (n - p) zSt)) :: rdrB g q2.A 0 q2.c :: K) (fun p => p ≤ n) (fun p => n - p) 0 (by exact has_) (by exact sub_) (Nat.zero_le _) ?_
  rintro j hj
  by_cases hlt : j < n
  · refine go_We ?_
    refine sl_sto2 rfl (at2 _ _ _) (by exact pick_) rfl rfl (by kernel_rfl) (by omega) ?_
    rw [rows_set stC_len (ticks_mid hlt) (stC_set1 zSt 1) (by decide)]
    rw [show ({ zSt with k := 1 } : St0) = tSt from rfl, ticks_set hlt]
    refine go_We ?_
    exact se_round (j + 1) (by exact has_) (by exact sub_) hlt (by omega)
  · obtain rfl : j = n := by omega
    rw [Nat.sub_self, List.replicate_zero, List.append_nil]
    refine go_We ?_
    exact se_ret1 (⟨some ⟨g4, 0, none⟩, j, q2⟩ : Sr) trivial rfl rfl (by exact sub_)
theorem build_step (s : St0) (W : World) : (Instr.buildSlice 34 1 #[(0, .agg (stC s).toArray)]).run Tryd.prog W = .ok (.slice (some ⟨W.heap.size, 0, none⟩) 1 1) (W.alloc (.cells (stC s).toArray 47)) := by kernel_rfl
set_option maxRecDepth 100000 in
set_option maxHeartbeats 4000000 in
theorem steps_crash {K Z : List Fa} {g c n : Nat} {A : Option Addr} {x : List UInt8} (hz : Sub K Z) (h : Wds Z A c [lCrash, lHelper, x]) (hx : x.length ≤ 1048576) (hn : numL x 1048576 = (n, true)) :
    Fn Tryd.prog 25 #[.pointer (some ⟨g, 0, none⟩)] (rdrB g A 3 c :: K) (Ret (fun _ : Sr => True) (fun q => .slice q.A 1 q.c) (fun q => own 47 87 q.A 1 q.c (rows stC [⟨7, 1, n⟩]) :: rdrB g q.q.A 0 q.q.c :: K)) := by
  refine fn_enter Tryd.func25 rfl _ Tryd.ntmps25 (by simp) [(0, .pointer (some ⟨g, 0, none⟩))] (args_of (by simp)) ?_
  refine go_We ?_
  refine sl_alloc rfl rfl rfl ?_; intro g3
  refine go_We ?_
  refine sl_call rfl rfl (by kernel_rfl) rfl (by exact sub_) (word_ok (Sub.skip hz) h) ?_; rintro q hq
  refine go_We ?_
  rw [cmpF (b := [116, 105, 99, 107]) (by decide)]
  refine go_We ?_
  rw [cmpF (b := [109, 101, 97, 115, 117, 114, 101]) (by decide)]
  refine go_We ?_
  rw [cmpF (b := [102, 111, 114, 103, 101]) (by decide)]
  refine go_We ?_
  rw [cmpF (b := [100, 101, 108, 105, 118, 101, 114]) (by decide)]
  refine go_We ?_
  rw [cmpF (b := [100, 114, 111, 112]) (by decide)]
  refine go_We ?_
  rw [cmpF (b := [100, 111, 117, 98, 108, 101]) (by decide)]
  refine go_We ?_
  refine sl_call rfl rfl (by kernel_rfl) rfl (by exact sub_) (who_helper (Sub.skip hz) hq) ?_; rintro q2 hq2
  refine go_We ?_
  refine sl_call rfl rfl (by kernel_rfl) rfl (by exact sub_) (rnumber_ok (most := 1048576) (Sub.skip hz) hq2 hx (by decide) hn) ?_; rintro q3 hq3
  refine go_We ?_
  refine sl_build (size := 87) (e := 47) (parts := [(0, .tmp 116)]) (ps := [(0, .agg (stC ⟨7, 1, n⟩).toArray)]) (cells := stC ⟨7, 1, n⟩) rfl (build_step _) rfl (by decide) rfl ?_
  intro g5
  refine go_We ?_
  refine se_ret1 (⟨some ⟨g5, 0, none⟩, 1, q3⟩ : Sr) trivial rfl rfl ?_
  rw [rows_one]
  exact sub_
end Go.Proofs.YtfnjeojaahnlfaaDoor
