/- MsgSame. -/
import Derived.Test.YtinomilmccopnaaMg5
import Derived.Test.YtinomilmccopnaaMg7
import Derived.Test.YtinomilmccopnaaMgp
import Derived.Test.YtinomilmccopnaaAp
namespace Go.Proofs.Ytinomilmccopnaa
open Go.RowKit
attribute [local irreducible] Go.Calls Go.Exit.then Go.Exit.inBlock Go.bodyPost Go.Code.wp Go.wpList
/-! Right's message may be one. -/
theorem rightE_check (e : Ent) : entCheck (rightE e) = 0 := by
  have h := wrap_mod e.code 32 (by decide)
  have h1 : (rightE e).pub.length ≤ 1000 := by show (e.pub.take 1000).length ≤ 1000; rw [List.length_take]; omega
  have h2 : (rightE e).share.length ≤ 1000 := by show (e.share.take 1000).length ≤ 1000; rw [List.length_take]; omega
  unfold entCheck
  rw [if_neg (by show ¬ (1099511627776 < e.time % 1099511627777 ∨ IntKind.u64.wrap e.code % 32 < 0 ∨ 31 < IntKind.u64.wrap e.code % 32); omega), if_neg (by omega)]
theorem firstBad_right : ∀ (es : List Ent), firstBad (es.map rightE) = 0
  | [] => rfl
  | e :: r => by
    rw [List.map_cons, firstBad, if_pos (rightE_check e)]
    exact firstBad_right r
theorem right_check {m : Msg} (hk : 0 ≤ m.kind) : msgCheck (rightM m) = 0 := by
  have h1 := wrap_mod m.many 257 (by decide)
  have h2 := wrap_mod m.code 32 (by decide)
  have hl : ((rightM m).es.length : Int) ≤ 6 := by
    show (((oneOf (1 + m.kind % 7) (m.es.take 6)).map rightE).length : Int) ≤ 6
    rw [List.length_map]
    unfold oneOf
    split
    · rw [List.length_take]
      omega
    · rw [List.length_take]
      omega
  have h1k : (1 + m.kind % 7 = 1 ∨ 1 + m.kind % 7 = 7) → ((rightM m).es.length : Int) = 1 := fun h => by
    show (((oneOf (1 + m.kind % 7) (m.es.take 6)).map rightE).length : Int) = 1
    rw [List.length_map, oneOf, if_pos h, List.length_take, List.length_append, List.length_singleton]
    omega
  unfold msgCheck
  rw [if_neg (by show ¬ (1 + m.kind % 7 < 1 ∨ 7 < 1 + m.kind % 7); omega), if_neg (by show ¬ (1099511627776 < m.job % 1099511627777 ∨ 1099511627776 < m.start % 1099511627777 ∨ IntKind.u64.wrap m.many % 257 < 0 ∨ 256 < IntKind.u64.wrap m.many % 257 ∨ IntKind.u64.wrap m.code % 32 < 0 ∨ 31 < IntKind.u64.wrap m.code % 32); omega), if_neg (by omega), if_neg (fun h => h.2 (h1k h.1))]
  exact firstBad_right _
theorem Me.ok {m : Me} (h : msgCheck m.ab = 0) : MsgOk m.ab := ⟨m.kb.1, m.jb.1, m.stb.1, m.sum.len, h, fun e he => by
  obtain ⟨x, _, rfl⟩ := List.mem_map.1 he
  exact ⟨x.id.len, x.tb.1⟩⟩
theorem encEs_b : ∀ (es : List En), IsBytes (encEs (es.map En.ab))
  | [] => fun x hx => by simp [encEs] at hx
  | e :: r => by
    rw [List.map_cons, encEs_cons]
    refine IsBytes.app ?_ (encEs_b r)
    exact (((e.id.ok.app (le_bytes _ _)).app (le_bytes _ _)).app ((le_bytes _ _).app e.pubB)).app ((le_bytes _ _).app e.shB)
theorem encM_b (m : Me) : IsBytes (encM m.ab) := (((((((le_bytes _ _).app (le_bytes _ _)).app (le_bytes _ _)).app (le_bytes _ _)).app m.sum.ok).app (le_bytes _ _)).app (le_bytes _ _)).app (encEs_b m.es)
theorem same_enc {x y : Me} (hx : msgCheck x.ab = 0) (hy : msgCheck y.ab = 0) : sameM x y = decide (encM x.ab = encM y.ab) := by
  rw [Bool.eq_iff_iff, sameM_iff, decide_eq_true_iff]
  exact ⟨fun h => by rw [h], fun h => encM_inj (Me.ok hx) (Me.ok hy) h⟩
theorem nth_Mg8 {φ : Prop} (h : φ := by (first | rfl | first | exact En.nt _ | exact En.np _ | exact En.ns _ | exact En.nc _ | exact Me.ne _ | exact Me.nd _ | exact mcs_4 | exact mcs_5 | assumption)) : φ := h
theorem mid_Mg8 {φ : Prop} (h : φ := by (first | first | exact En.mid _ | exact Me.mid _ | exact Mid.all | exact Mid.head)) : φ := h
theorem sz_Mg8 {φ : Prop} (h : φ := by (first | rfl | (first | (simp only [En.len, Me.len, bytes_length, Id.len, zm_len, mcs_lenI]; rfl) | simp only [En.len, Me.len, bytes_length, Id.len, zm_len, mcs_lenI]; first | done | fail))) : φ := h
theorem one_Mg8 {φ : Prop} (h : φ := by (first | assumption | exact first | exact En.one _ | exact Me.one _ | exact mcs_one | (simp only [List.mem_cons, List.not_mem_nil, or_false, forall_eq_or_imp, forall_eq]; decide) | exact one_bytes _)) : φ := h
theorem set_Mg8 {φ : Prop} (h : φ := by (first | (fail) | ((repeat (first | exact SetAt.here | apply SetAt.there)); first | done | fail))) : φ := h
theorem cl_Mg8 {φ : Prop} (h : φ := by first | rfl | exact .t | exact .f | exact .t (by omega) | exact .f (by omega) | exact .u | exact .i (by (first | exact .t (by omega) | exact .f (by omega) | exact .u | exact .i (by omega) | exact .v (by omega) | exact .b (by omega) | exact .w | rfl | omega)) | exact .v (by omega) | exact .b (by omega) | exact .q (by omega) | exact .w | exact .b (by exact at_) rfl (by exact nth_Mg8) | exact .w (by exact at_) rfl rfl (by exact sz_Mg8) | exact .s (by exact at_) (by exact mid_Mg8) rfl rfl (by exact sz_Mg8) | exact .z rfl rfl ⟨by kernel_rfl⟩ | exact .b rfl rfl ⟨by kernel_rfl⟩ | exact .a rfl rfl ⟨by kernel_rfl⟩ | exact .o rfl | exact .s | exact .n | exact .p rfl | exact .q rfl | exact .c rfl | exact .d rfl | exact .n rfl rfl (by omega) | exact .a rfl rfl (by omega) | exact .p rfl rfl (by omega) (by omega) | exact .y rfl rfl (by omega) (by omega) | exact .o (by exact at_) (by omega) rfl (by exact nth_Mg8) | exact .m (by exact at_) (by omega) (by exact mid_Mg8) rfl rfl (by exact sz_Mg8) | exact .mlen (by exact at_) rfl | exact .t (by exact at_) rfl rfl (by first | exact True.intro | rfl) (by assumption) | exact .f (by exact at_) rfl rfl (by first | exact True.intro | rfl) (by assumption) rfl | exact .t1 (by exact at_) rfl rfl (by first | exact True.intro | rfl) (by assumption) | exact .f1 (by exact at_) rfl rfl (by first | exact True.intro | rfl) (by assumption) rfl | exact .r rfl rfl (by omega) (by omega) (by exact nth_Mg8) rfl | exact .s rfl (by omega) (by assumption) | exact at_ | assumption | exact .r rfl rfl | exact .h rfl rfl rfl (by omega) | exact .l rfl rfl rfl (by omega) (by omega) | exact .g rfl rfl rfl rfl (by omega) (by omega) | exact .h rfl rfl (toN_ (by omega)) (by omega) | exact .l rfl rfl (toN_ (by omega)) (by omega) (by omega) | exact .g rfl rfl (toN_ (by omega)) (toN_ (by omega)) (by omega) (by omega) | exact .o (by decide) | exact .f (by decide) | exact .n (by omega) (by first | decide | (show _ ≤ ((64 : Nat) : Int); omega)) | (constructor; (repeat (first | exact .t (by omega) | exact .f (by omega) | exact .u | exact .i (by omega) | exact .v (by omega) | exact .b (by omega) | exact .w | rfl | omega)); first | done | fail) | omega | (show _ ≤ ((64 : Nat) : Int); omega)) : φ := h
theorem pv_Mg8 {φ : Prop} (h : φ := by constructor; (repeat exact cl_Mg8); first | done | fail) : φ := h
theorem su_Mg8 {φ ψ : Prop} (k : ψ) (h : Hide ψ → φ := by (intro k; (first | refine sl_pu (PuI.sep (by exact pv_Mg8)) rfl ?_ | refine sl_yes rfl rfl ?_ | refine sl_no rfl rfl rfl ?_ | refine sl_off rfl rfl rfl ?_); exact k.out)) : φ := h ⟨k⟩
theorem rq_Mg8 {φ ψ : Prop} (k : ψ) (h : Hide ψ → φ := by (intro k; (first | refine wq_pu (PuI.sep (by exact pv_Mg8)) rfl ?_ | refine wq_yes rfl rfl ?_ | refine wq_no rfl rfl rfl ?_ | refine wq_off rfl rfl rfl ?_); exact k.out)) : φ := h ⟨k⟩
theorem sto_Mg8 {φ ψ : Prop} (k : ψ) (h : Hide ψ → φ := by (intro k; (first | refine sl_store rfl (by exact pick_) rfl rfl (by kernel_rfl) (by exact set_Mg8) ?_ | refine sl_store_whole rfl (by exact pick_) rfl (by exact sz_Mg8) (by exact sz_Mg8) (by exact one_Mg8) ?_); exact k.out)) : φ := h ⟨k⟩
theorem go_Mg8 {φ ψ : Prop} (k : ψ) (h : Hide ψ → φ := by (intro k; (repeat (first | refine su_Mg8 ?_ | refine so_ ?_ | refine sto_Mg8 ?_)); exact k.out)) : φ := h ⟨k⟩
structure Sj where
  x : Me
  y : Me
  e1 : List En
  e2 : List En
  g5 : Nat
  g6 : Nat
structure RtOk (x : Me) (e0 : List En) (a : Me) : Prop where
  ab : x.ab = rightM a.ab
  rd : ∀ w, (star (enO e0)).P w → ∀ e ∈ x.es, EnR w e
theorem RtOk.mev {x a : Me} {e0 : List En} (h : RtOk x e0 a) {L : List Fa} (h1 : At (ensO x.A x.c x.es) L) (h2 : At (star (enO e0)) L) : MeV L x := fun w hw => ⟨Vw.of_own h1 w hw, h.rd w (hw.at h2)⟩
theorem RtOk.ck {x a : Me} {e0 : List En} (h : RtOk x e0 a) : msgCheck x.ab = 0 := by
  rw [h.ab]
  exact right_check a.kb.1
theorem RtOk.big {x a : Me} {e0 : List En} (h : RtOk x e0 a) : (∀ e ∈ x.es, e.n ≤ 140737488351232 ∧ e.m ≤ 140737488351232) ∧ x.es.length * 80 ≤ 140737488351232 ∧ x.es.length ≤ 256 := by
  obtain ⟨_, _, _, _, _, _, _, _, z9, z10⟩ := Me.chk h.ck
  exact ⟨fun e he => by have := z10 e he; omega, by omega, z9⟩
theorem re_ab {x : Me} {q : Cg} (h : q.es.map En.ab = x.es.map En.ab) : (x.re q.A q.c q.es).ab = x.ab := by
  show (⟨_, _, _, _, _, _, q.es.map En.ab⟩ : Msg) = ⟨_, _, _, _, _, _, _⟩
  rw [h]
  rfl
theorem clone_mev {x : Me} {q : Cg} (hf : ∀ e ∈ q.es, e.full) {L : List Fa} (h1 : At (ensO q.A q.c q.es) L) (h2 : At (star (enO q.es)) L) : MeV L (x.re q.A q.c q.es) := fun w hw => ⟨Vw.of_own h1 w hw, fun e he => enO_reads (hw.at h2) he (Nat.le_of_eq (hf e he).1) (Nat.le_of_eq (hf e he).2)⟩
theorem enO_split {zs : List En} {i : Nat} {e : En} (h : zs[i]? = some e) : enO zs = enO (zs.take i) ++ u8o e.A e.c e.fp :: u8o e.B e.d e.fs :: enO (zs.drop (i + 1)) := by
  obtain ⟨h1, h2⟩ := List.getElem?_eq_some_iff.1 h
  conv => lhs; rw [← List.take_append_drop i zs, List.drop_eq_getElem_cons h1, h2]
  rw [enO_app]
  rfl
def enRest (zs : List En) (i : Nat) : List Fa := enO (zs.take i) ++ enO (zs.drop (i + 1))
theorem enO_open {zs : List En} {i : Nat} {e : En} {K : List Fa} (h : zs[i]? = some e) : Ent_ (star (enO zs) :: K) (star (enRest zs i) :: u8o e.A e.c e.fp :: u8o e.B e.d e.fs :: K) := by
  rw [enO_split h]
  exact two_out
theorem enO_shut {zs : List En} {i : Nat} {e : En} {K : List Fa} (h : i < zs.length) : Ent_ (star (enRest zs i) :: u8o e.A e.c e.fp :: u8o e.B e.d e.fs :: K) (star (enO (zs.set i e)) :: K) := by
  have h1 : (zs.set i e)[i]? = some e := by rw [List.getElem?_set_self h]
  rw [enO_split h1, List.take_set, List.drop_set_of_lt (by omega), List.set_eq_of_length_le (by rw [List.length_take]; omega)]
  exact two_in
def En.tick (e : En) (t : Int) (tb : 0 ≤ t ∧ t ≤ 18446744073709551615) (fp fs : List Int) (h1 : fp.length = e.fp.length) (h2 : fs.length = e.fs.length) (b1 : IsBytes fp) (b2 : IsBytes fs) : En := ⟨e.id, t, e.A, e.n, e.c, fp, e.B, e.m, e.d, fs, e.code, tb, e.cb, by have := e.nl; omega, by have := e.ml; omega, b1, b2⟩
set_option maxRecDepth 100000 in
set_option maxHeartbeats 8000000 in
theorem lawSame_ok {K : List Fa} {a b : Me} (ha : MeV K a) (hb : MeV K b) (hba : ∀ e ∈ a.es, e.n ≤ 140737488351232 ∧ e.m ≤ 140737488351232) (hna : a.es.length * 80 ≤ 140737488351232) (hbb : ∀ e ∈ b.es, e.n ≤ 140737488351232 ∧ e.m ≤ 140737488351232) (hnb : b.es.length * 80 ≤ 140737488351232) :
    Fn Try.prog 7 #[a.v, b.v] K (Ret (fun _ : Unit => True) (fun _ => .bool true) (fun _ => K)) := by
  refine fn_enter Try.func7 rfl _ Try.ntmps7 (by simp) [(0, a.v), (1, b.v)] (args_of (by simp)) ?_
  refine go_Mg8 ?_
  refine sl_box rfl rfl rfl ?_; intro ga
  refine sl_box rfl rfl rfl ?_; intro gb
  refine go_Mg8 ?_
  refine sl_call rfl rfl (by kernel_rfl) rfl (by exact sub_) awake20 ?_; rintro _ -
  refine go_Mg8 ?_
  refine sl_call rfl rfl (by kernel_rfl) rfl (by exact sub_) (small_ok (ha.mono (L' := msgB gb b :: msgB ga a :: K) (by exact sub_)) (by omega)) ?_
  rintro b1 -
  cases b1 with
  | false =>
    refine go_Mg8 ?_
    exact se_ret1 () trivial rfl rfl (by exact sub_)
  | true =>
  refine go_Mg8 ?_
  refine sl_call rfl rfl (by kernel_rfl) rfl (by exact sub_) (small_ok (hb.mono (L' := msgB gb b :: msgB ga a :: K) (by exact sub_)) (by omega)) ?_
  rintro b2 -
  cases b2 with
  | false =>
    refine go_Mg8 ?_
    exact se_ret1 () trivial rfl rfl (by exact sub_)
  | true =>
  refine go_Mg8 ?_
  refine sc_join (fun p : Sj => [(5, .pointer (some ⟨p.g5, 0, none⟩)), (6, .pointer (some ⟨p.g6, 0, none⟩))]) (fun p => blk p.g5 48 p.x.cells :: blk p.g6 48 p.y.cells :: ensO p.x.A p.x.c p.x.es :: star (enO p.e1) :: ensO p.y.A p.y.c p.y.es :: star (enO p.e2) :: K) (fun p => RtOk p.x p.e1 a ∧ RtOk p.y p.e2 b) ?_ ?_
  · refine sd_drawn (fun W => AllP W [msgB ga a, msgB gb b]) (fun _ => true) (by kernel_rfl) 8 rfl ?_
    (refine sd_take 0 rfl (by kernel_rfl) (by exact nop_) (PuI.all (by exact pv_Mg8)) rfl (fun w hw => all_ hw) ?_)
    (refine sd_take 2 rfl (by kernel_rfl) (by exact nop_) (PuI.all (by exact pv_Mg8)) rfl (fun w hw => all_ hw) ?_)
    refine sd_three 1 4 5 (by kernel_rfl) (sa_sl 1 rfl ?_) (sa_sl 4 rfl ?_) (sa_sl 5 rfl ?_)
    · refine sl_call rfl rfl (by kernel_rfl) rfl Sub.refl (Right_ok (ha.mono (by exact sub_)) hba hna) ?_
      rintro q1 hq1
      refine sl_nil ?_
      refine se_sd (fun _ w hw => all_ hw) ?_
      refine sd_three 3 4 5 (by kernel_rfl) (sa_sl 3 rfl ?_) (sa_sl 4 rfl ?_) (sa_sl 5 rfl ?_)
      · refine sl_call rfl rfl (by kernel_rfl) rfl Sub.refl (Right_ok (hb.mono (by exact sub_)) hbb hnb) ?_
        rintro q2 hq2
        refine sl_nil ?_
        refine se_sd (fun _ w hw => all_ hw) ?_
        refine sd_two 4 5 (by kernel_rfl) (sa_sl 4 rfl ?_) (sa_sl 5 rfl ?_)
        · refine sl_alloc (cs := zm) rfl rfl rfl ?_
          intro g5
          refine sl_nil ?_
          refine se_sd (fun _ w hw => all_ hw) ?_
          refine sd_one 5 (by kernel_rfl) (sa_sl 5 rfl ?_)
          refine sl_alloc (cs := zm) rfl rfl rfl ?_
          intro g6
          refine sl_nil ?_
          refine se_sd (fun _ w hw => all_ hw) ?_
          refine sd_one 6 (by kernel_rfl) (sa_sl 6 rfl ?_)
          refine sl_store_whole (cl := (a.rt q1.A q1.c q1.es).cells) rfl (by exact pick_) rfl (by exact sz_Mg8) (by exact sz_Mg8) (Me.one _) ?_
          refine sl_nil ?_
          refine se_sd (fun _ w hw => all_ hw) ?_
          refine sd_one 7 (by kernel_rfl) (sa_sl 7 rfl ?_)
          refine sl_store_whole (g := g6) (cl := (b.rt q2.A q2.c q2.es).cells) rfl (by exact pick_) rfl (by exact sz_Mg8) (by exact sz_Mg8) (Me.one _) ?_
          refine sl_nil ?_
          refine se_sd (fun _ w hw => all_ hw) ?_
          refine sd_done (by kernel_rfl) ?_
          exact se_mid ⟨a.rt q1.A q1.c q1.es, b.rt q2.A q2.c q2.es, q1.es0, q2.es0, g5, g6⟩ (by exact has_) (by exact sub_) ⟨⟨hq1.ab, hq1.rd⟩, ⟨hq2.ab, hq2.rd⟩⟩
        · refine sl_alloc (cs := zm) rfl rfl rfl ?_
          intro g6
          refine sl_nil ?_
          refine se_sd (fun _ w hw => all_ hw) ?_
          refine sd_one 4 (by kernel_rfl) (sa_sl 4 rfl ?_)
          refine sl_alloc (cs := zm) rfl rfl rfl ?_
          intro g5
          refine sl_nil ?_
          refine se_sd (fun _ w hw => all_ hw) ?_
          refine sd_one 6 (by kernel_rfl) (sa_sl 6 rfl ?_)
          refine sl_store_whole (cl := (a.rt q1.A q1.c q1.es).cells) rfl (by exact pick_) rfl (by exact sz_Mg8) (by exact sz_Mg8) (Me.one _) ?_
          refine sl_nil ?_
          refine se_sd (fun _ w hw => all_ hw) ?_
          refine sd_one 7 (by kernel_rfl) (sa_sl 7 rfl ?_)
          refine sl_store_whole (g := g6) (cl := (b.rt q2.A q2.c q2.es).cells) rfl (by exact pick_) rfl (by exact sz_Mg8) (by exact sz_Mg8) (Me.one _) ?_
          refine sl_nil ?_
          refine se_sd (fun _ w hw => all_ hw) ?_
          refine sd_done (by kernel_rfl) ?_
          exact se_mid ⟨a.rt q1.A q1.c q1.es, b.rt q2.A q2.c q2.es, q1.es0, q2.es0, g5, g6⟩ (by exact has_) (by exact sub_) ⟨⟨hq1.ab, hq1.rd⟩, ⟨hq2.ab, hq2.rd⟩⟩
      · refine sl_alloc (cs := zm) rfl rfl rfl ?_
        intro g5
        refine sl_nil ?_
        refine se_sd (fun _ w hw => all_ hw) ?_
        refine sd_two 3 5 (by kernel_rfl) (sa_sl 3 rfl ?_) (sa_sl 5 rfl ?_)
        · refine sl_call rfl rfl (by kernel_rfl) rfl Sub.refl (Right_ok (hb.mono (by exact sub_)) hbb hnb) ?_
          rintro q2 hq2
          refine sl_nil ?_
          refine se_sd (fun _ w hw => all_ hw) ?_
          refine sd_one 5 (by kernel_rfl) (sa_sl 5 rfl ?_)
          refine sl_alloc (cs := zm) rfl rfl rfl ?_
          intro g6
          refine sl_nil ?_
          refine se_sd (fun _ w hw => all_ hw) ?_
          refine sd_one 6 (by kernel_rfl) (sa_sl 6 rfl ?_)
          refine sl_store_whole (cl := (a.rt q1.A q1.c q1.es).cells) rfl (by exact pick_) rfl (by exact sz_Mg8) (by exact sz_Mg8) (Me.one _) ?_
          refine sl_nil ?_
          refine se_sd (fun _ w hw => all_ hw) ?_
          refine sd_one 7 (by kernel_rfl) (sa_sl 7 rfl ?_)
          refine sl_store_whole (g := g6) (cl := (b.rt q2.A q2.c q2.es).cells) rfl (by exact pick_) rfl (by exact sz_Mg8) (by exact sz_Mg8) (Me.one _) ?_
          refine sl_nil ?_
          refine se_sd (fun _ w hw => all_ hw) ?_
          refine sd_done (by kernel_rfl) ?_
          exact se_mid ⟨a.rt q1.A q1.c q1.es, b.rt q2.A q2.c q2.es, q1.es0, q2.es0, g5, g6⟩ (by exact has_) (by exact sub_) ⟨⟨hq1.ab, hq1.rd⟩, ⟨hq2.ab, hq2.rd⟩⟩
        · refine sl_alloc (cs := zm) rfl rfl rfl ?_
          intro g6
          refine sl_nil ?_
          refine se_sd (fun _ w hw => all_ hw) ?_
          refine sd_one 3 (by kernel_rfl) (sa_sl 3 rfl ?_)
          refine sl_call rfl rfl (by kernel_rfl) rfl Sub.refl (Right_ok (hb.mono (by exact sub_)) hbb hnb) ?_
          rintro q2 hq2
          refine sl_nil ?_
          refine se_sd (fun _ w hw => all_ hw) ?_
          refine sd_one 6 (by kernel_rfl) (sa_sl 6 rfl ?_)
          refine sl_store_whole (cl := (a.rt q1.A q1.c q1.es).cells) rfl (by exact pick_) rfl (by exact sz_Mg8) (by exact sz_Mg8) (Me.one _) ?_
          refine sl_nil ?_
          refine se_sd (fun _ w hw => all_ hw) ?_
          refine sd_one 7 (by kernel_rfl) (sa_sl 7 rfl ?_)
          refine sl_store_whole (g := g6) (cl := (b.rt q2.A q2.c q2.es).cells) rfl (by exact pick_) rfl (by exact sz_Mg8) (by exact sz_Mg8) (Me.one _) ?_
          refine sl_nil ?_
          refine se_sd (fun _ w hw => all_ hw) ?_
          refine sd_done (by kernel_rfl) ?_
          exact se_mid ⟨a.rt q1.A q1.c q1.es, b.rt q2.A q2.c q2.es, q1.es0, q2.es0, g5, g6⟩ (by exact has_) (by exact sub_) ⟨⟨hq1.ab, hq1.rd⟩, ⟨hq2.ab, hq2.rd⟩⟩
      · refine sl_alloc (cs := zm) rfl rfl rfl ?_
        intro g6
        refine sl_nil ?_
        refine se_sd (fun _ w hw => all_ hw) ?_
        refine sd_two 3 4 (by kernel_rfl) (sa_sl 3 rfl ?_) (sa_sl 4 rfl ?_)
        · refine sl_call rfl rfl (by kernel_rfl) rfl Sub.refl (Right_ok (hb.mono (by exact sub_)) hbb hnb) ?_
          rintro q2 hq2
          refine sl_nil ?_
          refine se_sd (fun _ w hw => all_ hw) ?_
          refine sd_one 4 (by kernel_rfl) (sa_sl 4 rfl ?_)
          refine sl_alloc (cs := zm) rfl rfl rfl ?_
          intro g5
          refine sl_nil ?_
          refine se_sd (fun _ w hw => all_ hw) ?_
          refine sd_one 6 (by kernel_rfl) (sa_sl 6 rfl ?_)
          refine sl_store_whole (cl := (a.rt q1.A q1.c q1.es).cells) rfl (by exact pick_) rfl (by exact sz_Mg8) (by exact sz_Mg8) (Me.one _) ?_
          refine sl_nil ?_
          refine se_sd (fun _ w hw => all_ hw) ?_
          refine sd_one 7 (by kernel_rfl) (sa_sl 7 rfl ?_)
          refine sl_store_whole (g := g6) (cl := (b.rt q2.A q2.c q2.es).cells) rfl (by exact pick_) rfl (by exact sz_Mg8) (by exact sz_Mg8) (Me.one _) ?_
          refine sl_nil ?_
          refine se_sd (fun _ w hw => all_ hw) ?_
          refine sd_done (by kernel_rfl) ?_
          exact se_mid ⟨a.rt q1.A q1.c q1.es, b.rt q2.A q2.c q2.es, q1.es0, q2.es0, g5, g6⟩ (by exact has_) (by exact sub_) ⟨⟨hq1.ab, hq1.rd⟩, ⟨hq2.ab, hq2.rd⟩⟩
        · refine sl_alloc (cs := zm) rfl rfl rfl ?_
          intro g5
          refine sl_nil ?_
          refine se_sd (fun _ w hw => all_ hw) ?_
          refine sd_one 3 (by kernel_rfl) (sa_sl 3 rfl ?_)
          refine sl_call rfl rfl (by kernel_rfl) rfl Sub.refl (Right_ok (hb.mono (by exact sub_)) hbb hnb) ?_
          rintro q2 hq2
          refine sl_nil ?_
          refine se_sd (fun _ w hw => all_ hw) ?_
          refine sd_one 6 (by kernel_rfl) (sa_sl 6 rfl ?_)
          refine sl_store_whole (cl := (a.rt q1.A q1.c q1.es).cells) rfl (by exact pick_) rfl (by exact sz_Mg8) (by exact sz_Mg8) (Me.one _) ?_
          refine sl_nil ?_
          refine se_sd (fun _ w hw => all_ hw) ?_
          refine sd_one 7 (by kernel_rfl) (sa_sl 7 rfl ?_)
          refine sl_store_whole (g := g6) (cl := (b.rt q2.A q2.c q2.es).cells) rfl (by exact pick_) rfl (by exact sz_Mg8) (by exact sz_Mg8) (Me.one _) ?_
          refine sl_nil ?_
          refine se_sd (fun _ w hw => all_ hw) ?_
          refine sd_done (by kernel_rfl) ?_
          exact se_mid ⟨a.rt q1.A q1.c q1.es, b.rt q2.A q2.c q2.es, q1.es0, q2.es0, g5, g6⟩ (by exact has_) (by exact sub_) ⟨⟨hq1.ab, hq1.rd⟩, ⟨hq2.ab, hq2.rd⟩⟩
    · refine sl_alloc (cs := zm) rfl rfl rfl ?_
      intro g5
      refine sl_nil ?_
      refine se_sd (fun _ w hw => all_ hw) ?_
      refine sd_two 1 5 (by kernel_rfl) (sa_sl 1 rfl ?_) (sa_sl 5 rfl ?_)
      · refine sl_call rfl rfl (by kernel_rfl) rfl Sub.refl (Right_ok (ha.mono (by exact sub_)) hba hna) ?_
        rintro q1 hq1
        refine sl_nil ?_
        refine se_sd (fun _ w hw => all_ hw) ?_
        refine sd_two 3 5 (by kernel_rfl) (sa_sl 3 rfl ?_) (sa_sl 5 rfl ?_)
        · refine sl_call rfl rfl (by kernel_rfl) rfl Sub.refl (Right_ok (hb.mono (by exact sub_)) hbb hnb) ?_
          rintro q2 hq2
          refine sl_nil ?_
          refine se_sd (fun _ w hw => all_ hw) ?_
          refine sd_one 5 (by kernel_rfl) (sa_sl 5 rfl ?_)
          refine sl_alloc (cs := zm) rfl rfl rfl ?_
          intro g6
          refine sl_nil ?_
          refine se_sd (fun _ w hw => all_ hw) ?_
          refine sd_one 6 (by kernel_rfl) (sa_sl 6 rfl ?_)
          refine sl_store_whole (cl := (a.rt q1.A q1.c q1.es).cells) rfl (by exact pick_) rfl (by exact sz_Mg8) (by exact sz_Mg8) (Me.one _) ?_
          refine sl_nil ?_
          refine se_sd (fun _ w hw => all_ hw) ?_
          refine sd_one 7 (by kernel_rfl) (sa_sl 7 rfl ?_)
          refine sl_store_whole (g := g6) (cl := (b.rt q2.A q2.c q2.es).cells) rfl (by exact pick_) rfl (by exact sz_Mg8) (by exact sz_Mg8) (Me.one _) ?_
          refine sl_nil ?_
          refine se_sd (fun _ w hw => all_ hw) ?_
          refine sd_done (by kernel_rfl) ?_
          exact se_mid ⟨a.rt q1.A q1.c q1.es, b.rt q2.A q2.c q2.es, q1.es0, q2.es0, g5, g6⟩ (by exact has_) (by exact sub_) ⟨⟨hq1.ab, hq1.rd⟩, ⟨hq2.ab, hq2.rd⟩⟩
        · refine sl_alloc (cs := zm) rfl rfl rfl ?_
          intro g6
          refine sl_nil ?_
          refine se_sd (fun _ w hw => all_ hw) ?_
          refine sd_one 3 (by kernel_rfl) (sa_sl 3 rfl ?_)
          refine sl_call rfl rfl (by kernel_rfl) rfl Sub.refl (Right_ok (hb.mono (by exact sub_)) hbb hnb) ?_
          rintro q2 hq2
          refine sl_nil ?_
          refine se_sd (fun _ w hw => all_ hw) ?_
          refine sd_one 6 (by kernel_rfl) (sa_sl 6 rfl ?_)
          refine sl_store_whole (cl := (a.rt q1.A q1.c q1.es).cells) rfl (by exact pick_) rfl (by exact sz_Mg8) (by exact sz_Mg8) (Me.one _) ?_
          refine sl_nil ?_
          refine se_sd (fun _ w hw => all_ hw) ?_
          refine sd_one 7 (by kernel_rfl) (sa_sl 7 rfl ?_)
          refine sl_store_whole (g := g6) (cl := (b.rt q2.A q2.c q2.es).cells) rfl (by exact pick_) rfl (by exact sz_Mg8) (by exact sz_Mg8) (Me.one _) ?_
          refine sl_nil ?_
          refine se_sd (fun _ w hw => all_ hw) ?_
          refine sd_done (by kernel_rfl) ?_
          exact se_mid ⟨a.rt q1.A q1.c q1.es, b.rt q2.A q2.c q2.es, q1.es0, q2.es0, g5, g6⟩ (by exact has_) (by exact sub_) ⟨⟨hq1.ab, hq1.rd⟩, ⟨hq2.ab, hq2.rd⟩⟩
      · refine sl_alloc (cs := zm) rfl rfl rfl ?_
        intro g6
        refine sl_nil ?_
        refine se_sd (fun _ w hw => all_ hw) ?_
        refine sd_one 1 (by kernel_rfl) (sa_sl 1 rfl ?_)
        refine sl_call rfl rfl (by kernel_rfl) rfl Sub.refl (Right_ok (ha.mono (by exact sub_)) hba hna) ?_
        rintro q1 hq1
        refine sl_nil ?_
        refine se_sd (fun _ w hw => all_ hw) ?_
        refine sd_one 3 (by kernel_rfl) (sa_sl 3 rfl ?_)
        refine sl_call rfl rfl (by kernel_rfl) rfl Sub.refl (Right_ok (hb.mono (by exact sub_)) hbb hnb) ?_
        rintro q2 hq2
        refine sl_nil ?_
        refine se_sd (fun _ w hw => all_ hw) ?_
        refine sd_one 6 (by kernel_rfl) (sa_sl 6 rfl ?_)
        refine sl_store_whole (cl := (a.rt q1.A q1.c q1.es).cells) rfl (by exact pick_) rfl (by exact sz_Mg8) (by exact sz_Mg8) (Me.one _) ?_
        refine sl_nil ?_
        refine se_sd (fun _ w hw => all_ hw) ?_
        refine sd_one 7 (by kernel_rfl) (sa_sl 7 rfl ?_)
        refine sl_store_whole (g := g6) (cl := (b.rt q2.A q2.c q2.es).cells) rfl (by exact pick_) rfl (by exact sz_Mg8) (by exact sz_Mg8) (Me.one _) ?_
        refine sl_nil ?_
        refine se_sd (fun _ w hw => all_ hw) ?_
        refine sd_done (by kernel_rfl) ?_
        exact se_mid ⟨a.rt q1.A q1.c q1.es, b.rt q2.A q2.c q2.es, q1.es0, q2.es0, g5, g6⟩ (by exact has_) (by exact sub_) ⟨⟨hq1.ab, hq1.rd⟩, ⟨hq2.ab, hq2.rd⟩⟩
    · refine sl_alloc (cs := zm) rfl rfl rfl ?_
      intro g6
      refine sl_nil ?_
      refine se_sd (fun _ w hw => all_ hw) ?_
      refine sd_two 1 4 (by kernel_rfl) (sa_sl 1 rfl ?_) (sa_sl 4 rfl ?_)
      · refine sl_call rfl rfl (by kernel_rfl) rfl Sub.refl (Right_ok (ha.mono (by exact sub_)) hba hna) ?_
        rintro q1 hq1
        refine sl_nil ?_
        refine se_sd (fun _ w hw => all_ hw) ?_
        refine sd_two 3 4 (by kernel_rfl) (sa_sl 3 rfl ?_) (sa_sl 4 rfl ?_)
        · refine sl_call rfl rfl (by kernel_rfl) rfl Sub.refl (Right_ok (hb.mono (by exact sub_)) hbb hnb) ?_
          rintro q2 hq2
          refine sl_nil ?_
          refine se_sd (fun _ w hw => all_ hw) ?_
          refine sd_one 4 (by kernel_rfl) (sa_sl 4 rfl ?_)
          refine sl_alloc (cs := zm) rfl rfl rfl ?_
          intro g5
          refine sl_nil ?_
          refine se_sd (fun _ w hw => all_ hw) ?_
          refine sd_one 6 (by kernel_rfl) (sa_sl 6 rfl ?_)
          refine sl_store_whole (cl := (a.rt q1.A q1.c q1.es).cells) rfl (by exact pick_) rfl (by exact sz_Mg8) (by exact sz_Mg8) (Me.one _) ?_
          refine sl_nil ?_
          refine se_sd (fun _ w hw => all_ hw) ?_
          refine sd_one 7 (by kernel_rfl) (sa_sl 7 rfl ?_)
          refine sl_store_whole (g := g6) (cl := (b.rt q2.A q2.c q2.es).cells) rfl (by exact pick_) rfl (by exact sz_Mg8) (by exact sz_Mg8) (Me.one _) ?_
          refine sl_nil ?_
          refine se_sd (fun _ w hw => all_ hw) ?_
          refine sd_done (by kernel_rfl) ?_
          exact se_mid ⟨a.rt q1.A q1.c q1.es, b.rt q2.A q2.c q2.es, q1.es0, q2.es0, g5, g6⟩ (by exact has_) (by exact sub_) ⟨⟨hq1.ab, hq1.rd⟩, ⟨hq2.ab, hq2.rd⟩⟩
        · refine sl_alloc (cs := zm) rfl rfl rfl ?_
          intro g5
          refine sl_nil ?_
          refine se_sd (fun _ w hw => all_ hw) ?_
          refine sd_one 3 (by kernel_rfl) (sa_sl 3 rfl ?_)
          refine sl_call rfl rfl (by kernel_rfl) rfl Sub.refl (Right_ok (hb.mono (by exact sub_)) hbb hnb) ?_
          rintro q2 hq2
          refine sl_nil ?_
          refine se_sd (fun _ w hw => all_ hw) ?_
          refine sd_one 6 (by kernel_rfl) (sa_sl 6 rfl ?_)
          refine sl_store_whole (cl := (a.rt q1.A q1.c q1.es).cells) rfl (by exact pick_) rfl (by exact sz_Mg8) (by exact sz_Mg8) (Me.one _) ?_
          refine sl_nil ?_
          refine se_sd (fun _ w hw => all_ hw) ?_
          refine sd_one 7 (by kernel_rfl) (sa_sl 7 rfl ?_)
          refine sl_store_whole (g := g6) (cl := (b.rt q2.A q2.c q2.es).cells) rfl (by exact pick_) rfl (by exact sz_Mg8) (by exact sz_Mg8) (Me.one _) ?_
          refine sl_nil ?_
          refine se_sd (fun _ w hw => all_ hw) ?_
          refine sd_done (by kernel_rfl) ?_
          exact se_mid ⟨a.rt q1.A q1.c q1.es, b.rt q2.A q2.c q2.es, q1.es0, q2.es0, g5, g6⟩ (by exact has_) (by exact sub_) ⟨⟨hq1.ab, hq1.rd⟩, ⟨hq2.ab, hq2.rd⟩⟩
      · refine sl_alloc (cs := zm) rfl rfl rfl ?_
        intro g5
        refine sl_nil ?_
        refine se_sd (fun _ w hw => all_ hw) ?_
        refine sd_one 1 (by kernel_rfl) (sa_sl 1 rfl ?_)
        refine sl_call rfl rfl (by kernel_rfl) rfl Sub.refl (Right_ok (ha.mono (by exact sub_)) hba hna) ?_
        rintro q1 hq1
        refine sl_nil ?_
        refine se_sd (fun _ w hw => all_ hw) ?_
        refine sd_one 3 (by kernel_rfl) (sa_sl 3 rfl ?_)
        refine sl_call rfl rfl (by kernel_rfl) rfl Sub.refl (Right_ok (hb.mono (by exact sub_)) hbb hnb) ?_
        rintro q2 hq2
        refine sl_nil ?_
        refine se_sd (fun _ w hw => all_ hw) ?_
        refine sd_one 6 (by kernel_rfl) (sa_sl 6 rfl ?_)
        refine sl_store_whole (cl := (a.rt q1.A q1.c q1.es).cells) rfl (by exact pick_) rfl (by exact sz_Mg8) (by exact sz_Mg8) (Me.one _) ?_
        refine sl_nil ?_
        refine se_sd (fun _ w hw => all_ hw) ?_
        refine sd_one 7 (by kernel_rfl) (sa_sl 7 rfl ?_)
        refine sl_store_whole (g := g6) (cl := (b.rt q2.A q2.c q2.es).cells) rfl (by exact pick_) rfl (by exact sz_Mg8) (by exact sz_Mg8) (Me.one _) ?_
        refine sl_nil ?_
        refine se_sd (fun _ w hw => all_ hw) ?_
        refine sd_done (by kernel_rfl) ?_
        exact se_mid ⟨a.rt q1.A q1.c q1.es, b.rt q2.A q2.c q2.es, q1.es0, q2.es0, g5, g6⟩ (by exact has_) (by exact sub_) ⟨⟨hq1.ab, hq1.rd⟩, ⟨hq2.ab, hq2.rd⟩⟩
  rintro ⟨x, y, e1, e2, g5, g6⟩ ⟨hx, hy⟩
  dsimp only at hx hy ⊢
  have cx := hx.ck
  have cy := hy.ck
  obtain ⟨bx1, bx2, bx3⟩ := hx.big
  obtain ⟨by1, by2, by3⟩ := hy.big
  refine go_Mg8 ?_
  refine sl_call rfl rfl (by kernel_rfl) rfl Sub.refl (Clone_ok (hx.mev (by exact at_) (by exact at_)) bx1 bx2) ?_
  rintro ⟨A, c, zs⟩ ⟨hza, hzf⟩
  dsimp only at hza hzf ⊢
  have hzab : (x.re A c zs).ab = x.ab := re_ab (q := ⟨A, c, zs⟩) hza
  refine sl_alloc (cs := zm) rfl rfl rfl ?_
  intro g7
  refine sl_store_whole (cl := (x.re A c zs).cells) rfl (by exact pick_) rfl (by exact sz_Mg8) (by exact sz_Mg8) (Me.one _) ?_
  refine go_Mg8 ?_
  have hzl : zs.length = x.es.length := by simpa using congrArg List.length hza
  refine sc_join (fun _ : Unit => [(5, .pointer (some ⟨g5, 0, none⟩)), (7, .pointer (some ⟨g7, 0, none⟩)), (44, .bool false)]) (fun _ => blk g7 48 (x.re A c zs).cells :: ensO A c zs :: star (enO zs) :: blk g5 48 x.cells :: ensO x.A x.c x.es :: star (enO e1) :: K) (fun _ => True) ?_ ?_
  · refine sd_drawn (fun W => AllP W [blk g7 48 (x.re A c zs).cells, blk g5 48 x.cells, blk g6 48 y.cells]) (fun _ => true) (by kernel_rfl) 17 rfl ?_
    refine sd_yes 0 rfl (by exact gd_) (by kernel_rfl) (by exact nop_) (PuI.all (by exact pv_Mg8)) rfl (fun w hw => all_ hw) ?_
    refine sd_yes 1 rfl (by exact gd_) (by kernel_rfl) (by exact nop_) (PuI.all (by exact pv_Mg8)) rfl (fun w hw => all_ hw) ?_
    refine sd_one 2 (by kernel_rfl) (sa_sl 2 rfl ?_)
    refine sl_call rfl rfl (by kernel_rfl) rfl Sub.refl (Same_ok (a := x.re A c zs) (b := x) (clone_mev (q := ⟨A, c, zs⟩) hzf (by exact at_) (by exact at_)) (hx.mev (by exact at_) (by exact at_)) (by show zs.length ≤ _; omega) (by omega)) ?_
    rintro _ -
    rw [sameM_iff.2 hzab]
    refine sl_nil ?_
    refine se_sd (fun _ w hw => all_ hw) ?_
    refine sd_yes 3 rfl (by exact gd_) (by kernel_rfl) (by exact nop_) (PuI.all (by exact pv_Mg8)) rfl (fun w hw => all_ hw) ?_
    refine sd_yes 4 rfl (by exact gd_) (by kernel_rfl) (by exact nop_) (PuI.all (by exact pv_Mg8)) rfl (fun w hw => all_ hw) ?_
    refine sd_yes 5 rfl (by exact gd_) (by kernel_rfl) (by exact nop_) (PuI.all (by exact pv_Mg8)) rfl (fun w hw => all_ hw) ?_
    refine sd_yes 6 rfl (by exact gd_) (by kernel_rfl) (by exact nop_) (PuI.all (by exact pv_Mg8)) rfl (fun w hw => all_ hw) ?_
    refine sd_yes 8 rfl (by exact gd_) (by kernel_rfl) (by exact nop_) (PuI.all (by exact pv_Mg8)) rfl (fun w hw => all_ hw) ?_
    refine sd_yes 11 rfl (by exact gd_) (by kernel_rfl) (by exact nop_) (PuI.all (by exact pv_Mg8)) rfl (fun w hw => all_ hw) ?_
    refine sd_one 7 (by kernel_rfl) (sa_sl 7 rfl ?_)
    repeat refine su_Mg8 ?_
    refine sl_call rfl rfl (by kernel_rfl) rfl Sub.refl (Same_ok (a := x) (b := y) (hx.mev (by exact at_) (by exact at_)) (hy.mev (by exact at_) (by exact at_)) (by omega) (by omega)) ?_
    rintro _ -
    rw [same_enc cx cy]
    refine sl_nil ?_
    refine se_sd (fun _ w hw => all_ hw) ?_
    refine sd_one 9 (by kernel_rfl) (sa_sl 9 rfl ?_)
    repeat refine su_Mg8 ?_
    refine sl_call rfl rfl (by kernel_rfl) rfl Sub.refl (encode_ok (m := x) (hx.mev (by exact at_) (by exact at_)) cx) ?_
    rintro ⟨P1, p1⟩ -
    refine sl_nil ?_
    refine se_sd (fun _ w hw => all_ hw) ?_
    refine sd_two 10 12 (by kernel_rfl) (sa_sl 10 rfl ?_) (sa_sl 12 rfl ?_)
    · repeat refine su_Mg8 ?_
      refine sl_pu (pu_strv (Vw.of_own (c := p1) (e := 5) (by exact at_)) rfl rfl rfl rfl) rfl ?_
      refine sl_nil ?_
      refine se_sd (fun _ w hw => all_ hw) ?_
      refine sd_one 12 (by kernel_rfl) (sa_sl 12 rfl ?_)
      repeat refine su_Mg8 ?_
      refine sl_call rfl rfl (by kernel_rfl) rfl Sub.refl (encode_ok (m := y) (hy.mev (by exact at_) (by exact at_)) cy) ?_
      rintro ⟨P2, p2⟩ -
      refine sl_nil ?_
      refine se_sd (fun _ w hw => all_ hw) ?_
      refine sd_one 13 (by kernel_rfl) (sa_sl 13 rfl ?_)
      repeat refine su_Mg8 ?_
      refine sl_pu (pu_strv (Vw.of_own (c := p2) (e := 5) (by exact at_)) rfl rfl rfl rfl) rfl ?_
      refine sl_nil ?_
      refine se_sd (fun _ w hw => all_ hw) ?_
      refine sd_one 14 (by kernel_rfl) (sa_sl 14 rfl ?_)
      repeat refine su_Mg8 ?_
      rw [strs_dec (encM_b x) (encM_b y)]
      refine sl_nil ?_
      refine se_sd (fun _ w hw => all_ hw) ?_
      refine sd_one 15 (by kernel_rfl) (sa_sl 15 rfl ?_)
      repeat refine su_Mg8 ?_
      rw [beq_self_eq_true]
      refine sl_nil ?_
      refine se_sd (fun _ w hw => all_ hw) ?_
      refine sd_one 16 (by kernel_rfl) (sa_sl 16 rfl ?_)
      repeat refine su_Mg8 ?_
      refine sl_nil ?_
      refine se_sd (fun _ w hw => all_ hw) ?_
      refine sd_done (by kernel_rfl) ?_
      exact se_mid () (by exact has_) (by exact sub_) trivial
    · repeat refine su_Mg8 ?_
      refine sl_call rfl rfl (by kernel_rfl) rfl Sub.refl (encode_ok (m := y) (hy.mev (by exact at_) (by exact at_)) cy) ?_
      rintro ⟨P2, p2⟩ -
      refine sl_nil ?_
      refine se_sd (fun _ w hw => all_ hw) ?_
      refine sd_two 10 13 (by kernel_rfl) (sa_sl 10 rfl ?_) (sa_sl 13 rfl ?_)
      · repeat refine su_Mg8 ?_
        refine sl_pu (pu_strv (Vw.of_own (c := p1) (e := 5) (by exact at_)) rfl rfl rfl rfl) rfl ?_
        refine sl_nil ?_
        refine se_sd (fun _ w hw => all_ hw) ?_
        refine sd_one 13 (by kernel_rfl) (sa_sl 13 rfl ?_)
        repeat refine su_Mg8 ?_
        refine sl_pu (pu_strv (Vw.of_own (c := p2) (e := 5) (by exact at_)) rfl rfl rfl rfl) rfl ?_
        refine sl_nil ?_
        refine se_sd (fun _ w hw => all_ hw) ?_
        refine sd_one 14 (by kernel_rfl) (sa_sl 14 rfl ?_)
        repeat refine su_Mg8 ?_
        rw [strs_dec (encM_b x) (encM_b y)]
        refine sl_nil ?_
        refine se_sd (fun _ w hw => all_ hw) ?_
        refine sd_one 15 (by kernel_rfl) (sa_sl 15 rfl ?_)
        repeat refine su_Mg8 ?_
        rw [beq_self_eq_true]
        refine sl_nil ?_
        refine se_sd (fun _ w hw => all_ hw) ?_
        refine sd_one 16 (by kernel_rfl) (sa_sl 16 rfl ?_)
        repeat refine su_Mg8 ?_
        refine sl_nil ?_
        refine se_sd (fun _ w hw => all_ hw) ?_
        refine sd_done (by kernel_rfl) ?_
        exact se_mid () (by exact has_) (by exact sub_) trivial
      · repeat refine su_Mg8 ?_
        refine sl_pu (pu_strv (Vw.of_own (c := p2) (e := 5) (by exact at_)) rfl rfl rfl rfl) rfl ?_
        refine sl_nil ?_
        refine se_sd (fun _ w hw => all_ hw) ?_
        refine sd_one 10 (by kernel_rfl) (sa_sl 10 rfl ?_)
        repeat refine su_Mg8 ?_
        refine sl_pu (pu_strv (Vw.of_own (c := p1) (e := 5) (by exact at_)) rfl rfl rfl rfl) rfl ?_
        refine sl_nil ?_
        refine se_sd (fun _ w hw => all_ hw) ?_
        refine sd_one 14 (by kernel_rfl) (sa_sl 14 rfl ?_)
        repeat refine su_Mg8 ?_
        rw [strs_dec (encM_b x) (encM_b y)]
        refine sl_nil ?_
        refine se_sd (fun _ w hw => all_ hw) ?_
        refine sd_one 15 (by kernel_rfl) (sa_sl 15 rfl ?_)
        repeat refine su_Mg8 ?_
        rw [beq_self_eq_true]
        refine sl_nil ?_
        refine se_sd (fun _ w hw => all_ hw) ?_
        refine sd_one 16 (by kernel_rfl) (sa_sl 16 rfl ?_)
        repeat refine su_Mg8 ?_
        refine sl_nil ?_
        refine se_sd (fun _ w hw => all_ hw) ?_
        refine sd_done (by kernel_rfl) ?_
        exact se_mid () (by exact has_) (by exact sub_) trivial
  rintro _ -
  refine go_Mg8 ?_
  refine sl_call rfl rfl (by kernel_rfl) rfl Sub.refl (encode_ok (m := x) (hx.mev (by exact at_) (by exact at_)) cx) ?_
  rintro ⟨P1, p1⟩ -
  refine sl_pu (pu_strv (Vw.of_own (c := p1) (e := 5) (by exact at_)) rfl rfl rfl rfl) rfl ?_
  have hzs : ∀ e ∈ zs, e.n ≤ 65536 ∧ e.m ≤ 65536 := fun e he => by
    obtain ⟨u, hu, hue⟩ := List.mem_map.1 (hza ▸ List.mem_map_of_mem (f := En.ab) he)
    obtain ⟨_, _, _, _, _, _, _, _, _, z10⟩ := Me.chk cx
    have h1 := z10 u hu
    have h2 : u.pub = e.pub := congrArg Ent.pub hue
    have h3 : u.sh = e.sh := congrArg Ent.share hue
    have h4 := e.pl
    have h5 := e.sl
    rw [← h2, u.pl] at h4
    rw [← h3, u.sl] at h5
    omega
  have hzc : nth (x.re A c zs).cells 21 = some (.slice A zs.length c) := Me.ne _
  generalize (x.re A c zs).cells = zc at *
  refine go_Mg8 ?_
  refine sc_bjoin (fun _ : Unit => [(5, .pointer (some ⟨g5, 0, none⟩)), (8, .string (strOfNums (encM x.ab)))]) (fun _ => blk g5 48 x.cells :: ensO x.A x.c x.es :: star (enO e1) :: K) (fun _ => True) ?_ ?_
  · obtain ⟨N, hN⟩ : ∃ N, N = zs.length := ⟨_, rfl⟩
    have hNb : N ≤ 256 := by omega
    rw [← hN] at hzc ⊢
    refine sc_for (fun q : Nat × List En => [(5, .pointer (some ⟨g5, 0, none⟩)), (7, .pointer (some ⟨g7, 0, none⟩)), (8, .string (strOfNums (encM x.ab))), (50, .int .i64 N), (51, .int .i64 q.1)]) (fun q => own 50 20 A N c (rows En.cells q.2) :: star (enO q.2) :: blk g7 48 zc :: blk g5 48 x.cells :: ensO x.A x.c x.es :: star (enO e1) :: K) (fun q => q.1 ≤ N ∧ q.2.length = N ∧ ∀ e ∈ q.2, e.full ∧ e.n ≤ 65536 ∧ e.m ≤ 65536) (fun q => N - q.1) (0, zs) (by exact has_) (by rw [hN]; exact sub_) ⟨Nat.zero_le _, hN.symm, fun e he => ⟨hzf e he, hzs e he⟩⟩ ?_
    clear hzf hza hzab hzl hN hzs
    rintro ⟨i, zs⟩ ⟨hi, hzn, hzf⟩
    dsimp only at hi hzn hzf ⊢
    by_cases hlt : i < N
    · obtain ⟨e, he⟩ : ∃ e, zs[i]? = some e := ⟨_, List.getElem?_eq_getElem (by omega)⟩
      have hef := hzf e (List.mem_of_getElem? he)
      have hnl := hef.1.1
      have hml := hef.1.2
      have hn6 := hef.2.1
      have hm6 := hef.2.2
      refine sc_know (own_form_at (A := A) .here (by omega)) ?_
      rintro ⟨gz, hA⟩
      rw [hA] at hzc ⊢
      refine go_Mg8 ?_
      refine sl_pu (pu_ldo (by exact at_) (by omega) rfl (at2 _ _ _) rfl (rows_nth En.len he e.ns)) rfl ?_
      refine sl_ent (((Ent_.sub (L' := star (enO zs) :: own 50 20 (some ⟨gz, 0, none⟩) N c (rows En.cells zs) :: blk g7 48 zc :: blk g5 48 x.cells :: ensO x.A x.c x.es :: star (enO e1) :: K) (by exact sub_))).trans (enO_open he)) ?_
      refine go_Mg8 ?_
      refine sc_bjoin (fun _ : List Int => [(5, .pointer (some ⟨g5, 0, none⟩)), (7, .pointer (some ⟨g7, 0, none⟩)), (8, .string (strOfNums (encM x.ab))), (9, .int .i64 i), (50, .int .i64 N), (51, .int .i64 i)]) (fun xs => own 5 1 e.B e.fs.length e.d (bytes xs) :: own 50 20 (some ⟨gz, 0, none⟩) N c (rows En.cells zs) :: u8o e.A e.c e.fp :: star (enRest zs i) :: blk g7 48 zc :: blk g5 48 x.cells :: ensO x.A x.c x.es :: star (enO e1) :: K) (fun xs => xs.length = e.fs.length ∧ IsBytes xs) ?_ ?_
      · refine sc_for (fun p : Nat × List Int => [(5, .pointer (some ⟨g5, 0, none⟩)), (7, .pointer (some ⟨g7, 0, none⟩)), (8, .string (strOfNums (encM x.ab))), (9, .int .i64 i), (50, .int .i64 N), (51, .int .i64 i), (60, .int .i64 e.m), (61, .int .i64 p.1)]) (fun p => own 5 1 e.B e.fs.length e.d (bytes p.2) :: own 50 20 (some ⟨gz, 0, none⟩) N c (rows En.cells zs) :: u8o e.A e.c e.fp :: star (enRest zs i) :: blk g7 48 zc :: blk g5 48 x.cells :: ensO x.A x.c x.es :: star (enO e1) :: K) (fun p => p.1 ≤ e.m ∧ p.2.length = e.fs.length ∧ IsBytes p.2) (fun p => e.m - p.1) (0, e.fs) (by exact has_) (by exact sub_) ⟨Nat.zero_le _, rfl, e.sb⟩ ?_
        rintro ⟨k, xs⟩ ⟨hk, hxl, hxb⟩
        dsimp only at hk hxl hxb ⊢
        by_cases hlt2 : k < e.m
        · have hkx : k < xs.length := by omega
          have hx0 := hxb _ (List.getElem_mem hkx)
          refine sc_know (own_form_at (A := e.B) .here (by omega)) ?_
          rintro ⟨gb, hB⟩
          have hns : nth e.cells 18 = some (.slice (some ⟨gb, 0, none⟩) e.m e.d) := by rw [← hB]; exact e.ns
          rw [hB]
          refine go_Mg8 ?_
          refine sl_pu (pu_ldo (by exact at_) (by omega) rfl (at2 _ _ _) rfl (rows_nth En.len he hns)) rfl ?_
          refine go_Mg8 ?_
          refine sl_pu (pu_ldo (e := 5) (by exact at_) (by omega) rfl (at1 _ _) rfl (by rw [Nat.mul_one]; exact bytes_at hkx)) rfl ?_
          refine go_Mg8 ?_
          refine sl_sto2 (e := 5) rfl (at1 _ _) (by exact pick_) rfl rfl (by kernel_rfl) (by omega) ?_
          rw [Nat.mul_one, bytes_set, IntKind.wrap_u8, ← hB]
          refine go_Mg8 ?_
          exact se_round (k + 1, xs.set k ((xs[k] + 1) % 256)) (by exact has_) (by exact sub_) ⟨hlt2, by simpa using hxl, hxb.set k (by omega) (by omega)⟩ (by dsimp only; omega)
        · refine go_Mg8 ?_
          exact se_mid xs (by exact has_) (by exact sub_) ⟨hxl, hxb⟩
      rintro fs ⟨hfl, hfb⟩
      refine go_Mg8 ?_
      refine sl_pu (pu_ldo (by exact at_) (by omega) rfl (at2 _ _ _) rfl (rows_nth En.len he e.np)) rfl ?_
      refine go_Mg8 ?_
      refine sc_bjoin (fun _ : List Int => [(5, .pointer (some ⟨g5, 0, none⟩)), (7, .pointer (some ⟨g7, 0, none⟩)), (8, .string (strOfNums (encM x.ab))), (9, .int .i64 i), (50, .int .i64 N), (51, .int .i64 i)]) (fun xs => own 5 1 e.A e.fp.length e.c (bytes xs) :: own 50 20 (some ⟨gz, 0, none⟩) N c (rows En.cells zs) :: own 5 1 e.B e.fs.length e.d (bytes fs) :: star (enRest zs i) :: blk g7 48 zc :: blk g5 48 x.cells :: ensO x.A x.c x.es :: star (enO e1) :: K) (fun xs => xs.length = e.fp.length ∧ IsBytes xs) ?_ ?_
      · refine sc_for (fun p : Nat × List Int => [(5, .pointer (some ⟨g5, 0, none⟩)), (7, .pointer (some ⟨g7, 0, none⟩)), (8, .string (strOfNums (encM x.ab))), (9, .int .i64 i), (50, .int .i64 N), (51, .int .i64 i), (82, .int .i64 e.n), (83, .int .i64 p.1)]) (fun p => own 5 1 e.A e.fp.length e.c (bytes p.2) :: own 50 20 (some ⟨gz, 0, none⟩) N c (rows En.cells zs) :: own 5 1 e.B e.fs.length e.d (bytes fs) :: star (enRest zs i) :: blk g7 48 zc :: blk g5 48 x.cells :: ensO x.A x.c x.es :: star (enO e1) :: K) (fun p => p.1 ≤ e.n ∧ p.2.length = e.fp.length ∧ IsBytes p.2) (fun p => e.n - p.1) (0, e.fp) (by exact has_) (by exact sub_) ⟨Nat.zero_le _, rfl, e.pb⟩ ?_
        rintro ⟨k, xs⟩ ⟨hk, hxl, hxb⟩
        dsimp only at hk hxl hxb ⊢
        by_cases hlt2 : k < e.n
        · have hkx : k < xs.length := by omega
          have hx0 := hxb _ (List.getElem_mem hkx)
          refine sc_know (own_form_at (A := e.A) .here (by omega)) ?_
          rintro ⟨gb, hB⟩
          have hns : nth e.cells 17 = some (.slice (some ⟨gb, 0, none⟩) e.n e.c) := by rw [← hB]; exact e.np
          rw [hB]
          refine go_Mg8 ?_
          refine sl_pu (pu_ldo (by exact at_) (by omega) rfl (at2 _ _ _) rfl (rows_nth En.len he hns)) rfl ?_
          refine go_Mg8 ?_
          refine sl_pu (pu_ldo (e := 5) (by exact at_) (by omega) rfl (at1 _ _) rfl (by rw [Nat.mul_one]; exact bytes_at hkx)) rfl ?_
          refine go_Mg8 ?_
          refine sl_sto2 (e := 5) rfl (at1 _ _) (by exact pick_) rfl rfl (by kernel_rfl) (by omega) ?_
          rw [Nat.mul_one, bytes_set, IntKind.wrap_u8, ← hB]
          refine go_Mg8 ?_
          exact se_round (k + 1, xs.set k ((xs[k] + 1) % 256)) (by exact has_) (by exact sub_) ⟨hlt2, by simpa using hxl, hxb.set k (by omega) (by omega)⟩ (by dsimp only; omega)
        · refine go_Mg8 ?_
          exact se_mid xs (by exact has_) (by exact sub_) ⟨hxl, hxb⟩
      rintro fp ⟨hpl, hpb⟩
      refine go_Mg8 ?_
      refine sl_pu (pu_ldo (by exact at_) (by omega) rfl (at2 _ _ _) rfl (rows_nth En.len he e.nt)) rfl ?_
      refine go_Mg8 ?_
      have htb : 0 ≤ IntKind.u64.wrap (e.t + 1) ∧ IntKind.u64.wrap (e.t + 1) ≤ 18446744073709551615 := by rw [IntKind.wrap_u64]; omega
      obtain ⟨e', he'⟩ : ∃ e', e' = e.tick (IntKind.u64.wrap (e.t + 1)) htb fp fs hpl hfl hpb hfb := ⟨_, rfl⟩
      have hset : e.cells.set 16 (.int .u64 (IntKind.u64.wrap (e.t + 1))) = e'.cells := by rw [e.c16, he']; rfl
      refine sl_sto2 (e := 50) rfl (at2 _ _ _) (by exact pick_) rfl rfl (by kernel_rfl) (by omega) ?_
      rw [rows_set En.len he hset (by decide)]
      have hp' : own 5 1 e.A e.fp.length e.c (bytes fp) = u8o e'.A e'.c e'.fp := by rw [he', ← hpl]; rfl
      have hs' : own 5 1 e.B e.fs.length e.d (bytes fs) = u8o e'.B e'.d e'.fs := by rw [he', ← hfl]; rfl
      have hef' : e'.full ∧ e'.n ≤ 65536 ∧ e'.m ≤ 65536 := by rw [he']; exact ⟨⟨by show e.n = fp.length; omega, by show e.m = fs.length; omega⟩, hn6, hm6⟩
      rw [hp', hs']
      clear he' hset
      refine sl_ent ((Ent_.sub (L' := star (enRest zs i) :: u8o e'.A e'.c e'.fp :: u8o e'.B e'.d e'.fs :: own 50 20 (some ⟨gz, 0, none⟩) N c (rows En.cells (zs.set i e')) :: blk g7 48 zc :: blk g5 48 x.cells :: ensO x.A x.c x.es :: star (enO e1) :: K) (by exact sub_)).trans (enO_shut (by omega))) ?_
      rw [← hA]
      refine go_Mg8 ?_
      refine se_round (i + 1, zs.set i e') (by exact has_) (by exact sub_) ⟨hlt, by simpa using hzn, fun z hz => ?_⟩ (by dsimp only; omega)
      rcases List.mem_or_eq_of_mem_set hz with h | h
      · exact hzf z h
      · rw [h]
        exact hef'
    · refine go_Mg8 ?_
      exact se_mid () (by exact has_) (by exact sub_) trivial
  rintro _ -
  refine go_Mg8 ?_
  refine sl_call rfl rfl (by kernel_rfl) rfl Sub.refl (encode_ok (m := x) (hx.mev (by exact at_) (by exact at_)) cx) ?_
  rintro ⟨P2, p2⟩ -
  refine sl_pu (pu_strv (Vw.of_own (c := p2) (e := 5) (by exact at_)) rfl rfl rfl rfl) rfl ?_
  refine go_Mg8 ?_
  exact se_ret1 () trivial rfl rfl (by exact sub_)
end Go.Proofs.Ytinomilmccopnaa
