/- The law's own encode. -/
import Derived.Test.YtinomilmccopnaaMg3
import Derived.Test.YtinomilmccopnaaAp
namespace Go.Proofs.Ytinomilmccopnaa
open Go.RowKit
attribute [local irreducible] Go.Calls Go.Exit.then Go.Exit.inBlock Go.bodyPost Go.Code.wp Go.wpList
theorem le1 {v : Int} (h0 : 0 ≤ v) (h1 : v ≤ 255) : le v 1 = [v] := by
  simp [le]
  omega
theorem blk_id {g o : Nat} {t : TypeId} {cs : List Value} {id : Id} {L : List Fa} (h : At (blk g t cs) L) (hm : Mid cs o (bytes id.l)) : Vw L (fun w => Reads w 1 (some ⟨g, o, none⟩) 16 (bytes id.l)) := by
  have := Vw.of_blk_mid h hm
  rwa [id.len] at this
theorem Me.chk {m : Me} (h : msgCheck m.ab = 0) : 1 ≤ m.kind ∧ m.kind ≤ 7 ∧ m.job ≤ 1099511627776 ∧ m.start ≤ 1099511627776 ∧ 0 ≤ m.many ∧ m.many ≤ 256 ∧ 0 ≤ m.code ∧ m.code ≤ 31 ∧ m.es.length ≤ 256 ∧ ∀ e ∈ m.es, e.t ≤ 1099511627776 ∧ 0 ≤ e.code ∧ e.code ≤ 31 ∧ e.n ≤ 65536 ∧ e.m ≤ 65536 := by
  obtain ⟨z1, z2, z3, z4, z5, z6, z7, z8, z9, z10⟩ := msgCheck_zero h
  refine ⟨z1, z2, z3, z4, z5, z6, z7, z8, by simpa [Me.ab] using z9, fun e he => ?_⟩
  obtain ⟨h1, h2, h3, h4, h5⟩ := entCheck_zero (z10 e.ab (List.mem_map_of_mem he))
  exact ⟨h1, h2, h3, by rw [← e.pl]; exact h4, by rw [← e.sl]; exact h5⟩
theorem ens_len (es : List En) (h : ∀ e ∈ es, e.n ≤ 65536 ∧ e.m ≤ 65536) : (encEs (es.map En.ab)).length ≤ es.length * 131103 := by
  have := encEs_len (es := es.map En.ab) (fun x hx => by
    obtain ⟨e, he, rfl⟩ := List.mem_map.1 hx
    obtain ⟨h1, h2⟩ := h e he
    exact ⟨e.id.len, by show e.pub.length ≤ _; rw [e.pl]; exact h1, by show e.sh.length ≤ _; rw [e.sl]; exact h2⟩)
  simpa using this
theorem nth_Mg4 {φ : Prop} (h : φ := by (first | rfl | first | exact En.nt _ | exact En.np _ | exact En.ns _ | exact En.nc _ | exact Me.ne _ | exact Me.nd _)) : φ := h
theorem mid_Mg4 {φ : Prop} (h : φ := by (first | first | exact En.mid _ | exact Me.mid _ | exact Mid.all | exact Mid.head)) : φ := h
theorem sz_Mg4 {φ : Prop} (h : φ := by (first | rfl | (first | (simp only [En.len, Me.len, bytes_length, Id.len, zm_len]; rfl) | simp only [En.len, Me.len, bytes_length, Id.len, zm_len]; first | done | fail))) : φ := h
theorem one_Mg4 {φ : Prop} (h : φ := by (first | assumption | exact first | exact En.one _ | exact Me.one _ | (simp only [List.mem_cons, List.not_mem_nil, or_false, forall_eq_or_imp, forall_eq]; decide) | exact one_bytes _)) : φ := h
theorem set_Mg4 {φ : Prop} (h : φ := by (first | (fail) | ((repeat (first | exact SetAt.here | apply SetAt.there)); first | done | fail))) : φ := h
theorem cl_Mg4 {φ : Prop} (h : φ := by first | rfl | exact .t | exact .f | exact .t (by omega) | exact .f (by omega) | exact .u | exact .i (by (first | exact .t (by omega) | exact .f (by omega) | exact .u | exact .i (by omega) | exact .v (by omega) | exact .b (by omega) | exact .w | rfl | omega)) | exact .v (by omega) | exact .b (by omega) | exact .q (by omega) | exact .w | exact .b (by exact at_) rfl (by exact nth_Mg4) | exact .w (by exact at_) rfl rfl (by exact sz_Mg4) | exact .s (by exact at_) (by exact mid_Mg4) rfl rfl (by exact sz_Mg4) | exact .z rfl rfl ⟨by kernel_rfl⟩ | exact .b rfl rfl ⟨by kernel_rfl⟩ | exact .a rfl rfl ⟨by kernel_rfl⟩ | exact .o rfl | exact .s | exact .n | exact .p rfl | exact .q rfl | exact .c rfl | exact .d rfl | exact .n rfl rfl (by omega) | exact .a rfl rfl (by omega) | exact .p rfl rfl (by omega) (by omega) | exact .y rfl rfl (by omega) (by omega) | exact .o (by exact at_) (by omega) rfl (by exact nth_Mg4) | exact .m (by exact at_) (by omega) (by exact mid_Mg4) rfl rfl (by exact sz_Mg4) | exact .mlen (by exact at_) rfl | exact .t (by exact at_) rfl rfl (by first | exact True.intro | rfl) (by assumption) | exact .f (by exact at_) rfl rfl (by first | exact True.intro | rfl) (by assumption) rfl | exact .t1 (by exact at_) rfl rfl (by first | exact True.intro | rfl) (by assumption) | exact .f1 (by exact at_) rfl rfl (by first | exact True.intro | rfl) (by assumption) rfl | exact .r rfl rfl (by omega) (by omega) (by exact nth_Mg4) rfl | exact .s rfl (by omega) (by assumption) | exact at_ | assumption | exact .r rfl rfl | exact .h rfl rfl rfl (by omega) | exact .l rfl rfl rfl (by omega) (by omega) | exact .g rfl rfl rfl rfl (by omega) (by omega) | exact .h rfl rfl (toN_ (by omega)) (by omega) | exact .l rfl rfl (toN_ (by omega)) (by omega) (by omega) | exact .g rfl rfl (toN_ (by omega)) (toN_ (by omega)) (by omega) (by omega) | exact .o (by decide) | exact .f (by decide) | exact .n (by omega) (by first | decide | (show _ ≤ ((64 : Nat) : Int); omega)) | (constructor; (repeat (first | exact .t (by omega) | exact .f (by omega) | exact .u | exact .i (by omega) | exact .v (by omega) | exact .b (by omega) | exact .w | rfl | omega)); first | done | fail) | omega | (show _ ≤ ((64 : Nat) : Int); omega)) : φ := h
theorem pv_Mg4 {φ : Prop} (h : φ := by constructor; (repeat exact cl_Mg4); first | done | fail) : φ := h
theorem su_Mg4 {φ ψ : Prop} (k : ψ) (h : Hide ψ → φ := by (intro k; (first | refine sl_pu (PuI.sep (by exact pv_Mg4)) rfl ?_ | refine sl_yes rfl rfl ?_ | refine sl_no rfl rfl rfl ?_ | refine sl_off rfl rfl rfl ?_); exact k.out)) : φ := h ⟨k⟩
theorem rq_Mg4 {φ ψ : Prop} (k : ψ) (h : Hide ψ → φ := by (intro k; (first | refine wq_pu (PuI.sep (by exact pv_Mg4)) rfl ?_ | refine wq_yes rfl rfl ?_ | refine wq_no rfl rfl rfl ?_ | refine wq_off rfl rfl rfl ?_); exact k.out)) : φ := h ⟨k⟩
theorem sto_Mg4 {φ ψ : Prop} (k : ψ) (h : Hide ψ → φ := by (intro k; (first | refine sl_store rfl (by exact pick_) rfl rfl (by kernel_rfl) (by exact set_Mg4) ?_ | refine sl_store_whole rfl (by exact pick_) rfl (by exact sz_Mg4) (by exact sz_Mg4) (by exact one_Mg4) ?_); exact k.out)) : φ := h ⟨k⟩
theorem go_Mg4 {φ ψ : Prop} (k : ψ) (h : Hide ψ → φ := by (intro k; (repeat (first | refine su_Mg4 ?_ | refine so_ ?_ | refine sto_Mg4 ?_)); exact k.out)) : φ := h ⟨k⟩
set_option maxRecDepth 100000 in
set_option maxHeartbeats 4000000 in
theorem encode_ok {K : List Fa} {m : Me} (hr : MeV K m) (hc : msgCheck m.ab = 0) :
    Fn Try.prog 42 #[m.v] K (Ret (fun _ : Option Addr × Nat => True) (fun p => .slice p.1 (encM m.ab).length p.2) (fun p => u8o p.1 p.2 (encM m.ab) :: K)) := by
  obtain ⟨z1, z2, z3, z4, z5, z6, z7, z8, z9, z10⟩ := Me.chk hc
  have j0 := m.jb.1
  have s0 := m.stb.1
  refine fn_enter Try.func42 rfl _ Try.ntmps42 (by simp) [(0, m.v)] (args_of (by simp)) ?_
  refine go_Mg4 ?_
  refine sl_box rfl rfl rfl ?_; intro g
  refine go_Mg4 ?_
  refine sl_build (size := 1) (e := 5) (cells := bytes [m.kind]) rfl (fun W => by kernel_rfl) rfl (by decide) rfl ?_
  intro g1
  rw [← le1 (v := m.kind) (by omega) (by omega)]
  refine go_Mg4 ?_
  refine sd_drawn (fun W => AllP W [msgB g m]) (fun _ => true) (by kernel_rfl) 10 rfl ?_
  (refine sd_take 0 rfl (by kernel_rfl) (by exact nop_) (PuI.all (by exact pv_Mg4)) rfl (fun w hw => all_ hw) ?_)
  (refine sd_take 1 rfl (by kernel_rfl) (by exact nop_) (PuI.all (by exact pv_Mg4)) rfl (fun w hw => all_ hw) ?_)
  (refine sd_take 2 rfl (by kernel_rfl) (by exact nop_) (PuI.all (by exact pv_Mg4)) rfl (fun w hw => all_ hw) ?_)
  (refine sd_take 5 rfl (by kernel_rfl) (by exact nop_) (PuI.all (by exact pv_Mg4)) rfl (fun w hw => all_ hw) ?_)
  (refine sd_take 6 rfl (by kernel_rfl) (by exact nop_) (PuI.all (by exact pv_Mg4)) rfl (fun w hw => all_ hw) ?_)
  refine sd_call 3 (by kernel_rfl) rfl rfl rfl (by kernel_rfl) rfl (by exact sub_) (refUint (n := m.job) (k := 6) (by decide) (by omega) (by omega)) (fun _ a w hw => all_ hw) ?_
  rintro ⟨A1, c1⟩ -
  refine sd_app 4 (by kernel_rfl) rfl rfl (by exact pick_) rfl (Vw.of_own (by exact at_)) (one_bytes _) rfl Try.info5 (by decide) (by decide) rfl (by unfold maxLen; omega) (by omega) (fun _ A' c' w hw => by exact all_ hw) ?_
  intro A2 c2
  rw [← bytes_app]
  refine sd_call 7 (by kernel_rfl) rfl rfl rfl (by kernel_rfl) rfl (by exact sub_) (refUint (n := m.start) (k := 6) (by decide) (by omega) (by omega)) (fun _ a w hw => all_ hw) ?_
  rintro ⟨A3, c3⟩ -
  refine sd_app 8 (by kernel_rfl) rfl rfl (by exact pick_) rfl (Vw.of_own (by exact at_)) (one_bytes _) rfl Try.info5 (by decide) (by decide) rfl (by unfold maxLen; omega) (by omega) (fun _ A' c' w hw => by exact all_ hw) ?_
  intro A4 c4
  rw [← bytes_app]
  (refine sd_pu 9 (by kernel_rfl) rfl (PuI.sep (by exact pv_Mg4)) rfl (fun hnd w hw => by first | trivial | exact all_ hw | cases hnd) ?_)
  refine sd_done (by kernel_rfl) ?_
  refine go_Mg4 ?_
  refine sd_drawn (fun W => AllP W [msgB g m]) (fun _ => true) (by kernel_rfl) 10 rfl ?_
  (refine sd_take 0 rfl (by kernel_rfl) (by exact nop_) (PuI.all (by exact pv_Mg4)) rfl (fun w hw => all_ hw) ?_)
  (refine sd_take 1 rfl (by kernel_rfl) (by exact nop_) (PuI.all (by exact pv_Mg4)) rfl (fun w hw => all_ hw) ?_)
  (refine sd_take 2 rfl (by kernel_rfl) (by exact nop_) (PuI.all (by exact pv_Mg4)) rfl (fun w hw => all_ hw) ?_)
  (refine sd_take 3 rfl (by kernel_rfl) (by exact nop_) (PuI.all (by exact pv_Mg4)) rfl (fun w hw => all_ hw) ?_)
  (refine sd_take 6 rfl (by kernel_rfl) (by exact nop_) (PuI.all (by exact pv_Mg4)) rfl (fun w hw => all_ hw) ?_)
  (refine sd_take 7 rfl (by kernel_rfl) (by exact nop_) (PuI.all (by exact pv_Mg4)) rfl (fun w hw => all_ hw) ?_)
  refine sd_call 4 (by kernel_rfl) rfl rfl rfl (by kernel_rfl) rfl (by exact sub_) (refUint (n := m.many) (k := 2) (by decide) (by omega) (by omega)) (fun _ a w hw => all_ hw) ?_
  rintro ⟨A5, c5⟩ -
  refine sd_app 5 (by kernel_rfl) rfl rfl (by exact pick_) rfl (Vw.of_own (by exact at_)) (one_bytes _) rfl Try.info5 (by decide) (by decide) rfl (by unfold maxLen; omega) (by omega) (fun _ A' c' w hw => by exact all_ hw) ?_
  intro A6 c6
  rw [← bytes_app]
  refine sd_app 8 (by kernel_rfl) rfl rfl (by exact pick_) rfl (blk_id (by exact at_) m.mid) (one_bytes _) rfl Try.info5 (by decide) (by decide) rfl (by unfold maxLen; omega) (by omega) (fun _ A' c' w hw => by exact all_ hw) ?_
  intro A7 c7
  rw [← bytes_app]
  (refine sd_pu 9 (by kernel_rfl) rfl (PuI.sep (by exact pv_Mg4)) rfl (fun hnd w hw => by first | trivial | exact all_ hw | cases hnd) ?_)
  refine sd_done (by kernel_rfl) ?_
  refine go_Mg4 ?_
  refine sd_drawn (fun W => AllP W [msgB g m]) (fun _ => true) (by kernel_rfl) 13 rfl ?_
  (refine sd_take 0 rfl (by kernel_rfl) (by exact nop_) (PuI.all (by exact pv_Mg4)) rfl (fun w hw => all_ hw) ?_)
  (refine sd_take 1 rfl (by kernel_rfl) (by exact nop_) (PuI.all (by exact pv_Mg4)) rfl (fun w hw => all_ hw) ?_)
  (refine sd_take 2 rfl (by kernel_rfl) (by exact nop_) (PuI.all (by exact pv_Mg4)) rfl (fun w hw => all_ hw) ?_)
  (refine sd_take 3 rfl (by kernel_rfl) (by exact nop_) (PuI.all (by exact pv_Mg4)) rfl (fun w hw => all_ hw) ?_)
  (refine sd_take 6 rfl (by kernel_rfl) (by exact nop_) (PuI.all (by exact pv_Mg4)) rfl (fun w hw => all_ hw) ?_)
  (refine sd_take 7 rfl (by kernel_rfl) (by exact nop_) (PuI.all (by exact pv_Mg4)) rfl (fun w hw => all_ hw) ?_)
  (refine sd_take 8 rfl (by kernel_rfl) (by exact nop_) (PuI.all (by exact pv_Mg4)) rfl (fun w hw => all_ hw) ?_)
  (refine sd_take 9 rfl (by kernel_rfl) (by exact nop_) (PuI.all (by exact pv_Mg4)) rfl (fun w hw => all_ hw) ?_)
  refine sd_build (size := 1) (e := 5) (cells := bytes [m.code]) 4 (by kernel_rfl) rfl rfl (fun W => by kernel_rfl) rfl (by decide) rfl (fun _ g w hw => all_ hw) ?_
  intro g2
  rw [← le1 (v := m.code) (by omega) (by omega)]
  refine sd_app 5 (by kernel_rfl) rfl rfl (by exact pick_) rfl (Vw.of_own (by exact at_)) (one_bytes _) rfl Try.info5 (by decide) (by decide) rfl (by unfold maxLen; omega) (by omega) (fun _ A' c' w hw => by exact all_ hw) ?_
  intro A8 c8
  rw [← bytes_app]
  refine sd_call 10 (by kernel_rfl) rfl rfl rfl (by kernel_rfl) rfl (by exact sub_) (refUint (n := m.es.length) (k := 2) (by decide) (by omega) (by omega)) (fun _ a w hw => all_ hw) ?_
  rintro ⟨A9, c9⟩ -
  refine sd_app 11 (by kernel_rfl) rfl rfl (by exact pick_) rfl (Vw.of_own (by exact at_)) (one_bytes _) rfl Try.info5 (by decide) (by decide) rfl (by unfold maxLen; omega) (by omega) (fun _ A' c' w hw => by exact all_ hw) ?_
  intro A10 c10
  rw [← bytes_app]
  (refine sd_pu 12 (by kernel_rfl) rfl (PuI.sep (by exact pv_Mg4)) rfl (fun hnd w hw => by first | trivial | exact all_ hw | cases hnd) ?_)
  refine sd_done (by kernel_rfl) ?_
  have hH : le m.kind 1 ++ le m.job 6 ++ le m.start 6 ++ le m.many 2 ++ m.sum.l ++ le m.code 1 ++ le m.es.length 2 = encH m.ab := by simp [encH, Me.ab]
  rw [hH]
  have hHl : (encH m.ab).length = 34 := by simp [encH, le_len, Me.ab, m.sum.len]
  unfold encM
  generalize encH m.ab = hd at *
  refine go_Mg4 ?_
  refine sc_bjoin (fun q : Cg => [(3, .slice q.A (hd ++ encEs (m.es.map En.ab)).length q.c)]) (fun q => u8o q.A q.c (hd ++ encEs (m.es.map En.ab)) :: K) (fun _ => True) ?_ ?_
  · refine sc_for (fun q : Nat × Cg => [(3, .slice q.2.A (hd ++ encEs ((m.es.take q.1).map En.ab)).length q.2.c), (40, .slice m.A m.es.length m.c), (41, .int .i64 m.es.length), (42, .int .i64 q.1)]) (fun q => u8o q.2.A q.2.c (hd ++ encEs ((m.es.take q.1).map En.ab)) :: msgB g m :: K) (fun q => q.1 ≤ m.es.length) (fun q => m.es.length - q.1) (0, ⟨A10, c10, []⟩) (by simp only [encEs, List.take_zero, List.map_nil, List.flatten_nil, List.append_nil, hHl]; exact has_) (by simp only [encEs, List.take_zero, List.map_nil, List.flatten_nil, List.append_nil]; unfold u8o; rw [hHl]; exact sub_) (Nat.zero_le _) ?_
    rintro ⟨j, A, c, es0⟩ hj
    dsimp only at hj ⊢
    have hbl := ens_len (m.es.take j) (fun e he => (z10 e (List.mem_of_mem_take he)).2.2.2)
    rw [List.length_take, Nat.min_eq_left hj] at hbl
    by_cases hlt : j < m.es.length
    · obtain ⟨e, he⟩ : ∃ e, m.es[j]? = some e := ⟨_, List.getElem?_eq_getElem hlt⟩
      obtain ⟨he1, he2⟩ := List.getElem?_eq_some_iff.1 he
      have hem : e ∈ m.es := List.mem_of_getElem? he
      obtain ⟨y1, y2, y3, y4, y5⟩ := z10 e hem
      have et0 := e.tb.1
      have hst : hd ++ encEs ((m.es.take (j + 1)).map En.ab) = hd ++ encEs ((m.es.take j).map En.ab) ++ encE e.ab := by
        have := encEs_snoc (es := m.es.map En.ab) (j := j) (e := e.ab) (by rw [List.getElem?_map, he]; rfl)
        rw [← List.map_take, ← List.map_take] at this
        rw [this, List.append_assoc]
      have hbl2 : (hd ++ encEs ((m.es.take j).map En.ab)).length ≤ 40000000 := by rw [List.length_append]; omega
      generalize hd ++ encEs ((m.es.take j).map En.ab) = bs at *
      refine sc_know (vw_form (hr.row.mono (by exact sub_)) (by omega)) ?_
      rintro ⟨ad, hA⟩
      have hrow := hr.row
      rw [hA] at hrow ⊢
      refine go_Mg4 ?_
      refine sl_pu (pu_ldrs (hrow.mono (by exact sub_)) (by omega) rfl (rows_mid En.len he) rfl rfl (by exact sz_Mg4)) rfl ?_
      refine sl_alloc rfl rfl rfl ?_; intro ge
      refine go_Mg4 ?_
      refine sc_join (fun p : Option Addr × Nat => [(3, .slice p.1 (bs.length + 16 + 6 + 1) p.2), (5, .pointer (some ⟨ge, 0, none⟩)), (40, .slice (some ad) m.es.length m.c), (41, .int .i64 m.es.length), (42, .int .i64 j)]) (fun p => own 5 1 p.1 (bs.length + 16 + 6 + 1) p.2 (bytes (bs ++ e.id.l ++ le e.t 6 ++ le e.code 1)) :: blk ge 50 e.cells :: msgB g m :: K) (fun _ => True) ?_ ?_
      · refine sd_drawn (fun W => AllP W [blk ge 50 e.cells]) (fun _ => true) (by kernel_rfl) 14 rfl ?_
        (refine sd_take 0 rfl (by kernel_rfl) (by exact nop_) (PuI.all (by exact pv_Mg4)) rfl (fun w hw => all_ hw) ?_)
        (refine sd_take 1 rfl (by kernel_rfl) (by exact nop_) (PuI.all (by exact pv_Mg4)) rfl (fun w hw => all_ hw) ?_)
        (refine sd_take 2 rfl (by kernel_rfl) (by exact nop_) (PuI.all (by exact pv_Mg4)) rfl (fun w hw => all_ hw) ?_)
        (refine sd_take 4 rfl (by kernel_rfl) (by exact nop_) (PuI.all (by exact pv_Mg4)) rfl (fun w hw => all_ hw) ?_)
        (refine sd_take 5 rfl (by kernel_rfl) (by exact nop_) (PuI.all (by exact pv_Mg4)) rfl (fun w hw => all_ hw) ?_)
        (refine sd_take 8 rfl (by kernel_rfl) (by exact nop_) (PuI.all (by exact pv_Mg4)) rfl (fun w hw => all_ hw) ?_)
        (refine sd_take 9 rfl (by kernel_rfl) (by exact nop_) (PuI.all (by exact pv_Mg4)) rfl (fun w hw => all_ hw) ?_)
        (refine sd_take 10 rfl (by kernel_rfl) (by exact nop_) (PuI.all (by exact pv_Mg4)) rfl (fun w hw => all_ hw) ?_)
        refine sd_two 3 11 (by kernel_rfl) ?_ ?_
        · (refine sa_app 3 rfl rfl (by exact pick_) rfl (blk_id (by exact at_) e.mid) (one_bytes _) rfl Try.info5 (by decide) (by decide) rfl (by unfold maxLen; omega) (by omega) (fun _ A' c' w hw => by exact all_ hw) ?_; intro A3 c3; rw [← bytes_app])
          refine sd_two 6 11 (by kernel_rfl) ?_ ?_
          · (refine sa_call 6 rfl rfl rfl (by kernel_rfl) rfl (by exact sub_) (refUint (n := e.t) (k := 6) (by decide) (by omega) (by omega)) (fun _ a w hw => all_ hw) ?_; rintro ⟨A6, c6⟩ -)
            refine sd_two 7 11 (by kernel_rfl) ?_ ?_
            · (refine sa_app 7 rfl rfl (by exact pick_) rfl (Vw.of_own (by exact at_)) (one_bytes _) rfl Try.info5 (by decide) (by decide) rfl (by unfold maxLen; omega) (by omega) (fun _ A' c' w hw => by exact all_ hw) ?_; intro A7 c7; rw [← bytes_app])
              (refine sd_build (size := 1) (e := 5) (cells := bytes [e.code]) 11 (by kernel_rfl) rfl rfl (fun W => by kernel_rfl) rfl (by decide) rfl (fun _ g w hw => all_ hw) ?_; intro gb; rw [← le1 (v := e.code) (by omega) (by omega)])
              (refine sd_app 12 (by kernel_rfl) rfl rfl (by exact pick_) rfl (Vw.of_own (by exact at_)) (one_bytes _) rfl Try.info5 (by decide) (by decide) rfl (by unfold maxLen; omega) (by omega) (fun _ A' c' w hw => by exact all_ hw) ?_; intro A12 c12; rw [← bytes_app]; (refine sd_pu 13 (by kernel_rfl) rfl (PuI.sep (by exact pv_Mg4)) rfl (fun hnd w hw => by first | trivial | exact all_ hw | cases hnd) ?_); refine sd_done (by kernel_rfl) ?_; exact se_mid (A12, c12) (by exact has_) (by exact sub_) trivial)
            · (refine sa_build (size := 1) (e := 5) (cells := bytes [e.code]) 11 rfl rfl (fun W => by kernel_rfl) rfl (by decide) rfl (fun _ g w hw => all_ hw) ?_; intro gb; rw [← le1 (v := e.code) (by omega) (by omega)])
              (refine sd_app 7 (by kernel_rfl) rfl rfl (by exact pick_) rfl (Vw.of_own (by exact at_)) (one_bytes _) rfl Try.info5 (by decide) (by decide) rfl (by unfold maxLen; omega) (by omega) (fun _ A' c' w hw => by exact all_ hw) ?_; intro A7 c7; rw [← bytes_app])
              (refine sd_app 12 (by kernel_rfl) rfl rfl (by exact pick_) rfl (Vw.of_own (by exact at_)) (one_bytes _) rfl Try.info5 (by decide) (by decide) rfl (by unfold maxLen; omega) (by omega) (fun _ A' c' w hw => by exact all_ hw) ?_; intro A12 c12; rw [← bytes_app]; (refine sd_pu 13 (by kernel_rfl) rfl (PuI.sep (by exact pv_Mg4)) rfl (fun hnd w hw => by first | trivial | exact all_ hw | cases hnd) ?_); refine sd_done (by kernel_rfl) ?_; exact se_mid (A12, c12) (by exact has_) (by exact sub_) trivial)
          · (refine sa_build (size := 1) (e := 5) (cells := bytes [e.code]) 11 rfl rfl (fun W => by kernel_rfl) rfl (by decide) rfl (fun _ g w hw => all_ hw) ?_; intro gb; rw [← le1 (v := e.code) (by omega) (by omega)])
            (refine sd_call 6 (by kernel_rfl) rfl rfl rfl (by kernel_rfl) rfl (by exact sub_) (refUint (n := e.t) (k := 6) (by decide) (by omega) (by omega)) (fun _ a w hw => all_ hw) ?_; rintro ⟨A6, c6⟩ -)
            (refine sd_app 7 (by kernel_rfl) rfl rfl (by exact pick_) rfl (Vw.of_own (by exact at_)) (one_bytes _) rfl Try.info5 (by decide) (by decide) rfl (by unfold maxLen; omega) (by omega) (fun _ A' c' w hw => by exact all_ hw) ?_; intro A7 c7; rw [← bytes_app])
            (refine sd_app 12 (by kernel_rfl) rfl rfl (by exact pick_) rfl (Vw.of_own (by exact at_)) (one_bytes _) rfl Try.info5 (by decide) (by decide) rfl (by unfold maxLen; omega) (by omega) (fun _ A' c' w hw => by exact all_ hw) ?_; intro A12 c12; rw [← bytes_app]; (refine sd_pu 13 (by kernel_rfl) rfl (PuI.sep (by exact pv_Mg4)) rfl (fun hnd w hw => by first | trivial | exact all_ hw | cases hnd) ?_); refine sd_done (by kernel_rfl) ?_; exact se_mid (A12, c12) (by exact has_) (by exact sub_) trivial)
        · (refine sa_build (size := 1) (e := 5) (cells := bytes [e.code]) 11 rfl rfl (fun W => by kernel_rfl) rfl (by decide) rfl (fun _ g w hw => all_ hw) ?_; intro gb; rw [← le1 (v := e.code) (by omega) (by omega)])
          (refine sd_app 3 (by kernel_rfl) rfl rfl (by exact pick_) rfl (blk_id (by exact at_) e.mid) (one_bytes _) rfl Try.info5 (by decide) (by decide) rfl (by unfold maxLen; omega) (by omega) (fun _ A' c' w hw => by exact all_ hw) ?_; intro A3 c3; rw [← bytes_app])
          (refine sd_call 6 (by kernel_rfl) rfl rfl rfl (by kernel_rfl) rfl (by exact sub_) (refUint (n := e.t) (k := 6) (by decide) (by omega) (by omega)) (fun _ a w hw => all_ hw) ?_; rintro ⟨A6, c6⟩ -)
          (refine sd_app 7 (by kernel_rfl) rfl rfl (by exact pick_) rfl (Vw.of_own (by exact at_)) (one_bytes _) rfl Try.info5 (by decide) (by decide) rfl (by unfold maxLen; omega) (by omega) (fun _ A' c' w hw => by exact all_ hw) ?_; intro A7 c7; rw [← bytes_app])
          (refine sd_app 12 (by kernel_rfl) rfl rfl (by exact pick_) rfl (Vw.of_own (by exact at_)) (one_bytes _) rfl Try.info5 (by decide) (by decide) rfl (by unfold maxLen; omega) (by omega) (fun _ A' c' w hw => by exact all_ hw) ?_; intro A12 c12; rw [← bytes_app]; (refine sd_pu 13 (by kernel_rfl) rfl (PuI.sep (by exact pv_Mg4)) rfl (fun hnd w hw => by first | trivial | exact all_ hw | cases hnd) ?_); refine sd_done (by kernel_rfl) ?_; exact se_mid (A12, c12) (by exact has_) (by exact sub_) trivial)
      rintro ⟨A1, c1⟩ -
      dsimp only
      refine go_Mg4 ?_
      refine sd_drawn (fun W => AllP W [blk ge 50 e.cells]) (fun _ => true) (by kernel_rfl) 10 rfl ?_
      (refine sd_take 0 rfl (by kernel_rfl) (by exact nop_) (PuI.all (by exact pv_Mg4)) rfl (fun w hw => all_ hw) ?_)
      (refine sd_take 1 rfl (by kernel_rfl) (by exact nop_) (PuI.all (by exact pv_Mg4)) rfl (fun w hw => all_ hw) ?_)
      (refine sd_take 2 rfl (by kernel_rfl) (by exact nop_) (PuI.all (by exact pv_Mg4)) rfl (fun w hw => all_ hw) ?_)
      (refine sd_take 5 rfl (by kernel_rfl) (by exact nop_) (PuI.all (by exact pv_Mg4)) rfl (fun w hw => all_ hw) ?_)
      (refine sd_take 6 rfl (by kernel_rfl) (by exact nop_) (PuI.all (by exact pv_Mg4)) rfl (fun w hw => all_ hw) ?_)
      refine sd_call 3 (by kernel_rfl) rfl rfl rfl (by kernel_rfl) rfl (by exact sub_) (refLong (K := own 5 1 A1 (bs.length + 16 + 6 + 1) c1 (bytes (bs ++ e.id.l ++ le e.t 6 ++ le e.code 1)) :: blk ge 50 e.cells :: msgB g m :: K) (m := e.n) (fun w hw => ((hr.ent hem).mono (by exact sub_) w hw).1) (by omega)) (fun _ a w hw => all_ hw) ?_
      rintro ⟨A2, c2⟩ -
      refine sd_app 4 (by kernel_rfl) rfl rfl (by exact pick_) rfl (Vw.of_own (by exact at_)) (one_bytes _) rfl Try.info5 (by decide) (by decide) rfl (by unfold maxLen; omega) (by omega) (fun _ A' c' w hw => by exact all_ hw) ?_
      intro A4 c4
      rw [← bytes_app]
      refine sd_call 7 (by kernel_rfl) rfl rfl rfl (by kernel_rfl) rfl Sub.refl (refLong (m := e.m) (fun w hw => ((hr.ent hem).mono (by exact sub_) w hw).2) (by omega)) (fun _ a w hw => all_ hw) ?_
      rintro ⟨A5, c5⟩ -
      refine sd_app 8 (by kernel_rfl) rfl rfl (by exact pick_) rfl (Vw.of_own (by exact at_)) (one_bytes _) rfl Try.info5 (by decide) (by decide) rfl (by unfold maxLen; omega) (by omega) (fun _ A' c' w hw => by exact all_ hw) ?_
      intro A8 c8
      rw [← bytes_app]
      (refine sd_pu 9 (by kernel_rfl) rfl (PuI.sep (by exact pv_Mg4)) rfl (fun hnd w hw => by first | trivial | exact all_ hw | cases hnd) ?_)
      refine sd_done (by kernel_rfl) ?_
      have hee : bs ++ e.id.l ++ le e.t 6 ++ le e.code 1 ++ (le e.n 4 ++ e.pub) ++ (le e.m 4 ++ e.sh) = bs ++ encE e.ab := by
        have h1 := e.pl
        have h2 := e.sl
        simp [encE, En.ab, h1, h2]
      have hln : (bs ++ encE e.ab).length = bs.length + 16 + 6 + 1 + (4 + e.n) + (4 + e.m) := by
        rw [List.length_append, encE_len e.id.len]
        show bs.length + (31 + e.pub.length + e.sh.length) = _
        rw [e.pl, e.sl]
        omega
      rw [hee]
      refine go_Mg4 ?_
      refine se_round (j + 1, ⟨A8, c8, []⟩) ?_ ?_ hlt (by dsimp only; omega)
      · dsimp only
        rw [hst, hln]
        exact has_
      · dsimp only
        unfold u8o
        rw [hst, hln]
        exact sub_
    · obtain rfl : j = m.es.length := by omega
      rw [List.take_length]
      refine go_Mg4 ?_
      exact se_mid ⟨A, c, []⟩ (by exact has_) (by exact sub_) trivial
  rintro ⟨A, c, es0⟩ -
  dsimp only
  refine go_Mg4 ?_
  exact se_ret1 (A, c) trivial rfl rfl (by exact sub_)
end Go.Proofs.Ytinomilmccopnaa
