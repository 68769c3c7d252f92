/- Several texts of one claim, one behind the other (Ib, Ic, Id). -/
import Derived.Test.YtocaabnbmcpjmaaGreatDoorB20
import Derived.Test.YtocaabnbmcpjmaaGreatDoorB21
set_option linter.unusedVariables false
set_option linter.unusedSimpArgs false
/- Package helper: Take. -/
namespace Go.Proofs.YtocaabnbmcpjmaaGreatDoor
open Go.RowKit Go.MapKept
attribute [local irreducible] Go.Calls Go.Exit.then Go.Exit.inBlock Go.bodyPost Go.Code.wp Go.wpList takeL recordL hashL recL allL
/-- An entry that says a code alone. -/
def enC (id : Id) (t code : Int) : List Value := bytes id.l ++ [.int .u64 t, .slice none 0 0, .slice none 0 0, .int .i64 code]
theorem enC_len {id : Id} {t code : Int} : (enC id t code).length = 20 := by simp [enC, bytes, id.len]
theorem enC_one {id : Id} {t code : Int} : ∀ v ∈ enC id t code, v.oneCell' = true := by
  intro v hv
  rcases List.mem_append.1 hv with h | h
  · exact one_bytes _ v h
  · simp only [List.mem_cons, List.not_mem_nil, or_false] at h
    rcases h with rfl | rfl | rfl | rfl <;> rfl
theorem enC_16 {id : Id} {t code : Int} : nth (enC id t code) 16 = some (.int .u64 t) := by
  rw [nth_eq, enC, List.getElem?_append_right (by simp [bytes, id.len])]
  simp [bytes, id.len]
theorem enC_19 {id : Id} {t code : Int} : nth (enC id t code) 19 = some (.int .i64 code) := by
  rw [nth_eq, enC, List.getElem?_append_right (by simp [bytes, id.len])]
  simp [bytes, id.len]
theorem enC_mid {id : Id} {t code : Int} : Mid (enC id t code) 0 (bytes id.l) := Mid.head
theorem build_enC (id : Id) (t code : Int) (W : World) : (Instr.build 62 #[(0, id.v), (1, .int .u64 t), (4, .int .i64 code)]).run Tryz.prog W = .ok (.agg (enC id t code).toArray) W := by
  obtain ⟨a0, a1, a2, a3, a4, a5, a6, a7, a8, a9, a10, a11, a12, a13, a14, a15, h⟩ := list16m id.len
  show (Instr.build 62 #[(0, .agg (bytes id.l).toArray), (1, .int .u64 t), (4, .int .i64 code)]).run Tryz.prog W = _
  unfold enC
  rw [h]
  kernel_rfl
theorem build_rp (id : Id) (t : Int) (A : Option Addr) (n c : Nat) (B : Option Addr) (m d : Nat) (W : World) : (Instr.build 108 #[(0, id.v), (1, .int .u64 t), (2, .slice A n c), (3, .slice B m d)]).run Tryz.prog W = .ok (.agg (rpC id t (.slice A n c) (.slice B m d)).toArray) W := by
  obtain ⟨a0, a1, a2, a3, a4, a5, a6, a7, a8, a9, a10, a11, a12, a13, a14, a15, h⟩ := list16m id.len
  show (Instr.build 108 #[(0, .agg (bytes id.l).toArray), (1, .int .u64 t), (2, .slice A n c), (3, .slice B m d)]).run Tryz.prog W = _
  unfold rpC
  rw [h]
  kernel_rfl
/-- A message of one row of entries. -/
abbrev moC (kind job : Int) (A : Option Addr) (n c : Nat) : List Value := mcs kind job 0 0 zId.l 0 A n c
theorem moC_len {kind job : Int} {A : Option Addr} {n c : Nat} : (moC kind job A n c).length = 22 := mcs_len zId.len
theorem build_mo7 (A : Option Addr) (n c : Nat) (W : World) : (Instr.build 65 #[(0, .int .u8 7), (6, .slice A n c)]).run Tryz.prog W = .ok (.agg (moC 7 0 A n c).toArray) W := by kernel_rfl
/-- What Take says. -/
def tkE (x : Su) (lim : Int) (q : StM) (now : Int) (e : En) : Int :=
  if hasI q.ss e.id then (if (gotI q.ss e.id).t ≠ e.t then 14 else 0) else if now + x.ah < e.t then 15 else accE x.r lim q e.id e.t e.n e.m
/-- Is it taken up? -/
def tkN (x : Su) (lim : Int) (q : StM) (now : Int) (e : En) : Prop := hasI q.ss e.id = false ∧ ¬ now + x.ah < e.t ∧ accE x.r lim q e.id e.t e.n e.m = 0
def tkP (x : Su) (lim : Int) (q : StM) (now : Int) (e : En) (ls : List (List Int)) : Option AcR → Prop
  | none => ¬ tkN x lim q now e
  | some z => tkN x lim q now e ∧ JFl (ls ++ [1 :: rcAcc e.id e.t e.pub e.sh]) (cellsA (ls ++ [1 :: rcAcc e.id e.t e.pub e.sh]) * 64) z.f ∧ ∃ A1 c1 pA pc sA sc, z.q = q.acc lim ⟨e.id, e.t, 30, e.tb, by decide⟩ A1 c1 ⟨e.id, e.t, pA, pc, e.pub, sA, sc, e.sh, q.cw⟩
theorem nth_Ib {φ : Prop} (h : φ := by (first | rfl | first | exact hn5 | rfl | exact Su.n27 _ | exact Su.n28 _ | exact En.nt _ | exact En.np _ | exact En.ns _ | exact En.nc _ | exact Me.ne _ | exact Me.nd _ | exact enC_16 | exact enC_19 | exact mcs_5 | exact mcs_4 | exact seen_n16 | exact seen_n17)) : φ := h
theorem mid_Ib {φ : Prop} (h : φ := by (first | first | exact Su.mt _ | exact Su.mr _ | exact En.mid _ | exact Me.mid _ | exact enC_mid | exact Mid.all | exact Mid.all | exact Mid.head)) : φ := h
theorem sz_Ib {φ : Prop} (h : φ := by (first | rfl | ((try simp only [Su.len, En.len, Me.len, moC_len, enC_len, Seen.len, bytes_length, Id.len]); (first | done | rfl); first | done | fail))) : φ := h
theorem one_Ib {φ : Prop} (h : φ := by (first | assumption | exact first | exact Su.one _ | exact En.one _ | exact Me.one _ | exact mcs_one | exact enC_one | exact Seen.one _ | exact one_bytes _ | (simp only [List.mem_cons, List.not_mem_nil, or_false, forall_eq_or_imp, forall_eq]; decide) | exact one_bytes _ | (intro v hv; (repeat (rcases List.mem_cons.1 hv with rfl | hv; rfl)); cases hv))) : φ := h
theorem set_Ib {φ : Prop} (h : φ := by (first | (fail) | ((repeat (first | exact SetAt.here | apply SetAt.there)); first | done | fail))) : φ := h
theorem cl_Ib {φ : Prop} (h : φ := by first | rfl | exact .t | exact .f | exact .t (by omega) | exact .f (by omega) | exact .u | exact .i (by (first | exact .t (by omega) | exact .f (by omega) | exact .u | exact .i (by omega) | exact .v (by omega) | exact .b (by omega) | exact .w | rfl | omega)) | exact .v (by omega) | exact .b (by omega) | exact .q (by omega) | exact .w | exact .b (by exact at_) rfl (by exact nth_Ib) | exact .w (by exact at_) rfl rfl (by exact sz_Ib) | exact .s (by exact at_) (by exact mid_Ib) rfl rfl (by exact sz_Ib) | exact .z rfl rfl ⟨by kernel_rfl⟩ | exact .b rfl rfl ⟨by kernel_rfl⟩ | exact .a rfl rfl ⟨by kernel_rfl⟩ | exact .o rfl | exact .s | exact .n | exact .p rfl | exact .q rfl | exact .c rfl | exact .d rfl | exact .n rfl rfl (by omega) | exact .a rfl rfl (by omega) | exact .p rfl rfl (by omega) (by omega) | exact .y rfl rfl (by omega) (by omega) | exact .o (by exact at_) (by omega) rfl (by exact nth_Ib) | exact .m (by exact at_) (by omega) (by exact mid_Ib) rfl rfl (by exact sz_Ib) | exact .mlen (by exact at_) rfl | exact .t (by exact at_) rfl rfl (by first | exact True.intro | rfl) (by assumption) | exact .f (by exact at_) rfl rfl (by first | exact True.intro | rfl) (by assumption) rfl | exact .t1 (by exact at_) rfl rfl (by first | exact True.intro | rfl) (by assumption) | exact .f1 (by exact at_) rfl rfl (by first | exact True.intro | rfl) (by assumption) rfl | exact .tk (by exact at_) rfl (by assumption) (by assumption) | exact .fk (by exact at_) rfl (by assumption) (by assumption) rfl | exact .tk1 (by exact at_) rfl (by assumption) (by assumption) | exact .fk1 (by exact at_) rfl (by assumption) (by assumption) rfl | exact .r rfl rfl (by omega) (by omega) (by exact nth_Ib) rfl | exact .s rfl (by omega) (by assumption) | exact at_ | assumption | exact .r rfl rfl | exact .h rfl rfl rfl (by omega) | exact .l rfl rfl rfl (by omega) (by omega) | exact .g rfl rfl rfl rfl (by omega) (by omega) | exact .h rfl rfl (toN_ (by omega)) (by omega) | exact .l rfl rfl (toN_ (by omega)) (by omega) (by omega) | exact .g rfl rfl (toN_ (by omega)) (toN_ (by omega)) (by omega) (by omega) | exact .o (by decide) | exact .f (by decide) | exact .n (by omega) (by first | decide | (show _ ≤ ((64 : Nat) : Int); omega)) | (constructor; (repeat (first | exact .t (by omega) | exact .f (by omega) | exact .u | exact .i (by omega) | exact .v (by omega) | exact .b (by omega) | exact .w | rfl | omega)); first | done | fail) | omega | (show _ ≤ ((64 : Nat) : Int); omega)) : φ := h
theorem pv_Ib {φ : Prop} (h : φ := by constructor; (repeat exact cl_Ib); first | done | fail) : φ := h
theorem su_Ib {φ ψ : Prop} (k : ψ) (h : Hide ψ → φ := by (intro k; (first | refine sl_pu (PuI.sep (by exact pv_Ib)) rfl ?_ | refine sl_yes rfl rfl ?_ | refine sl_no rfl rfl rfl ?_ | refine sl_off rfl rfl rfl ?_ | (fail)); exact k.out)) : φ := h ⟨k⟩
theorem sto_Ib {φ ψ : Prop} (k : ψ) (h : Hide ψ → φ := by (intro k; (first | refine sl_store rfl (by exact pick_) rfl rfl (by kernel_rfl) (by exact set_Ib) ?_ | refine sl_store_whole rfl (by exact pick_) rfl (by exact sz_Ib) (by exact sz_Ib) (by exact one_Ib) ?_); exact k.out)) : φ := h ⟨k⟩
theorem go_Ib {φ ψ : Prop} (k : ψ) (h : Hide ψ → φ := by (intro k; (repeat (first | refine su_Ib ?_ | refine so_ ?_ | refine sto_Ib ?_)); exact k.out)) : φ := h ⟨k⟩
theorem seen_n16 {s : Seen} : nth s.cells 16 = some (.int .u64 s.t) := by
  rw [nth_eq, Seen.cells, List.getElem?_append_right (by simp [bytes, s.id.len])]
  simp [bytes, s.id.len]
theorem seen_n17 {s : Seen} : nth s.cells 17 = some (.int .i64 s.c) := by
  rw [nth_eq, Seen.cells, List.getElem?_append_right (by simp [bytes, s.id.len])]
  simp [bytes, s.id.len]
set_option maxRecDepth 100000 in
theorem htake_nil {K : List Fa} {x : Su} {now : Int} {m : Me} :
    Fn Tryz.prog 14 #[.agg x.c.toArray, .pointer none, .int .u64 now, m.v] K (Ret (fun _ : Unit => True) (fun _ => .tuple #[.agg (moC 0 0 none 0 0).toArray, .int .i64 1]) (fun _ => K)) := by
  refine fn_enter Tryz.func14 rfl _ Tryz.ntmps14 (by simp) [(0, .agg x.c.toArray), (1, .pointer none), (2, .int .u64 now), (3, m.v)] (args_of (by simp)) ?_
  refine go_Ib ?_
  refine sl_box rfl rfl rfl ?_; intro g4
  refine go_Ib ?_
  refine sl_box rfl rfl rfl ?_; intro g7
  refine go_Ib ?_
  refine sl_alloc rfl rfl rfl ?_; intro g8
  refine go_Ib ?_
  refine sl_pu (pu_build (v := .agg (moC 0 0 none 0 0).toArray) rfl (fun W => by kernel_rfl)) rfl ?_
  refine go_Ib ?_
  exact se_ret_ct () trivial rfl rfl (by exact at_) rfl rfl (by exact sz_Ib) rfl rfl (by exact sub_)
set_option maxRecDepth 100000 in
theorem htake_kind {K : List Fa} {x : Su} {g : Nat} {now : Int} {m : Me} (h : m.kind ≠ 1) :
    Fn Tryz.prog 14 #[.agg x.c.toArray, .pointer (some ⟨g, 0, none⟩), .int .u64 now, m.v] K (Ret (fun _ : Unit => True) (fun _ => .tuple #[.agg (moC 0 0 none 0 0).toArray, .int .i64 10]) (fun _ => K)) := by
  refine fn_enter Tryz.func14 rfl _ Tryz.ntmps14 (by simp) [(0, .agg x.c.toArray), (1, .pointer (some ⟨g, 0, none⟩)), (2, .int .u64 now), (3, m.v)] (args_of (by simp)) ?_
  refine go_Ib ?_
  refine sl_box rfl rfl rfl ?_; intro g4
  refine go_Ib ?_
  refine sl_box rfl rfl rfl ?_; intro g7
  refine go_Ib ?_
  refine sl_alloc rfl rfl rfl ?_; intro g8
  refine go_Ib ?_
  refine sl_pu (pu_build (v := .agg (moC 0 0 none 0 0).toArray) rfl (fun W => by kernel_rfl)) rfl ?_
  refine go_Ib ?_
  exact se_ret_ct () trivial rfl rfl (by exact at_) rfl rfl (by exact sz_Ib) rfl rfl (by exact sub_)
set_option maxRecDepth 100000 in
set_option maxHeartbeats 8000000 in
theorem htake_ok {K : List Fa} {x : Su} {g gd md σ ckd : Nat} {lim limd now : Int} {q : StM} {ls : List (List Int)} {f : DF} {m : Me} {e : En} (hrw : 0 ≤ x.r.w) (hlm : 0 ≤ lim ∧ lim ≤ 256) (hs : Srt q.ss) (hn : q.ss.length ≤ 1000000)
    (hno : ∀ id, hasI q.ss id = false → wfind q.ws id = none) (hk : m.kind = 1) (he : m.es = [e]) (hv : MeV K m) (hna : 0 ≤ now ∧ 0 ≤ x.ah ∧ now + x.ah ≤ 18446744073709551615)
    (hJ : tkN x lim q now e → JSt ls [f] ckd σ ∧ (1 :: rcAcc e.id e.t e.pub e.sh).length ≤ 5000 ∧ cellsA ls ≤ 16000 ∧ (((cellsA ls + manyL (1 :: rcAcc e.id e.t e.pub e.sh).length) * 64 : Nat) : Int) ≤ limd ∧ limd ≤ 1048576) :
    Fn Tryz.prog 14 #[.agg x.c.toArray, .pointer (some ⟨g, 0, none⟩), .int .u64 now, m.v] (sF g x.t x.r lim q (jC q.gj gd sj (cellsA ls) :: dB gd md limd :: dM md [f] ckd :: dS [f] :: K))
      (Ret (fun z : Nat × Option AcR => tkP x lim q now e ls z.2) (fun z => .tuple #[.agg (moC 7 0 (some ⟨z.1, 0, none⟩) 1 1).toArray, .int .i64 0]) (fun z => own 62 20 (some ⟨z.1, 0, none⟩) 1 1 (enC e.id e.t (tkE x lim q now e)) :: saH g gd md x.t x.r lim limd e.t q e.id e.pub e.sh ls [f] ckd K z.2)) := by
  refine fn_enter Tryz.func14 rfl _ Tryz.ntmps14 (by simp) [(0, .agg x.c.toArray), (1, .pointer (some ⟨g, 0, none⟩)), (2, .int .u64 now), (3, m.v)] (args_of (by simp)) ?_
  have hrow := hv.row
  have hent := hv.ent (e := e) (by rw [he]; exact List.mem_singleton.2 rfl)
  have hl1 : m.es.length = 1 := by rw [he]; rfl
  have hpl := e.pl
  have hsl := e.sl
  have hmid : m.es[0]? = some e := by rw [he]; rfl
  have hmd : Mid (rows En.cells m.es) (Int.toNat 0 * 20) e.cells := (rows_mid En.len hmid : Mid (rows En.cells m.es) (0 * 20) e.cells)
  rw [hl1] at hrow
  refine sc_know (vw_form (hrow.mono (by exact sub_)) (by omega)) ?_
  rintro ⟨ad, hA⟩
  rw [hA] at hrow
  have hn5 : nth m.cells 21 = some (.slice (some ad) 1 m.c) := by rw [m.ne, hA, hl1]
  refine go_Ib ?_
  refine sl_box rfl rfl rfl ?_; intro g4
  refine go_Ib ?_
  refine sl_box rfl rfl rfl ?_; intro g7
  refine go_Ib ?_
  refine sl_alloc rfl rfl rfl ?_; intro g8
  refine go_Ib ?_
  refine sl_pu (pu_ldrs (hrow.mono (by exact sub_)) (by omega) rfl hmd rfl rfl (by exact sz_Ib)) rfl ?_
  refine sl_alloc rfl rfl rfl ?_; intro g10
  refine go_Ib ?_
  refine sl_call rfl rfl (by kernel_rfl) rfl (by exact sub_) (sSeen_ok (K := blk g10 62 e.cells :: blk g8 65 (moC 0 0 none 0 0) :: blk g7 65 m.cells :: blk g4 34 x.c :: jC q.gj gd sj (cellsA ls) :: dB gd md limd :: dM md [f] ckd :: dS [f] :: K) (g := g) (t := x.t) (r := x.r) (lim := lim) (id := e.id) hs hn) ?_
  rintro _ -
  refine go_Ib ?_
  refine sl_alloc rfl rfl rfl ?_; intro g12
  refine go_Ib ?_
  refine sc_join (α := Option AcR) (fun _ => [(8, .pointer (some ⟨g8, 0, none⟩)), (10, .pointer (some ⟨g10, 0, none⟩)), (11, .int .i64 (tkE x lim q now e))]) (fun z => blk g8 65 (moC 0 0 none 0 0) :: blk g10 62 e.cells :: saH g gd md x.t x.r lim limd e.t q e.id e.pub e.sh ls [f] ckd K z) (tkP x lim q now e ls) ?_ ?_
  · cases hh : hasI q.ss e.id with
    | true =>
      have hnt : ¬ tkN x lim q now e := fun h => by rw [h.1] at hh; cases hh
      by_cases ht : (gotI q.ss e.id).t = e.t
      · rw [show tkE x lim q now e = 0 by unfold tkE; rw [if_pos hh, if_neg (fun h => h ht)]]
        refine go_Ib ?_
        exact se_mid none (by exact has_) (by exact sub_) hnt
      · rw [show tkE x lim q now e = 14 by unfold tkE; rw [if_pos hh, if_pos ht]]
        refine go_Ib ?_
        exact se_mid none (by exact has_) (by exact sub_) hnt
    | false =>
      by_cases hlate : now + x.ah < e.t
      · have hnt : ¬ tkN x lim q now e := fun h => h.2.1 hlate
        rw [show tkE x lim q now e = 15 by unfold tkE; rw [if_neg (by rw [hh]; decide), if_pos hlate]]
        refine go_Ib ?_
        exact se_mid none (by exact has_) (by exact sub_) hnt
      · rw [show tkE x lim q now e = accE x.r lim q e.id e.t e.n e.m by unfold tkE; rw [if_neg (by rw [hh]; decide), if_neg hlate]]
        refine go_Ib ?_
        refine sl_pu (pu_build (v := .agg (rpC e.id e.t (.slice e.A e.n e.c) (.slice e.B e.m e.d)).toArray) rfl (fun W => build_rp _ _ _ _ _ _ _ _ W)) rfl ?_
        have hsa := sAccept_ok (K := blk g12 103 (gotI q.ss e.id).cells :: blk g10 62 e.cells :: blk g8 65 (moC 0 0 none 0 0) :: blk g7 65 m.cells :: blk g4 34 x.c :: K) (g := g) (gd := gd) (md := md) (ckd := ckd) (t := x.t) (r := x.r) (lim := lim) (limd := limd) (q := q) (ls := ls) (fs := [f]) (σ := σ) (id := e.id) (tm := e.t) (pA := e.A) (sA := e.B) (p := e.pub) (s := e.sh) (pc := e.c) (sc := e.d)
          hrw hlm e.tb hs hn (hno e.id) (Vw.mono (Vw.imp hent (fun w h => by rw [hpl]; exact h.1)) (by exact sub_)) (Vw.mono (Vw.imp hent (fun w h => by rw [hsl]; exact h.2)) (by exact sub_))
          (fun h0 => by
            rw [hpl, hsl] at h0
            obtain ⟨j1, j2, j3, j4, j5⟩ := hJ ⟨hh, hlate, h0⟩
            exact ⟨j1, rcAcc_bytes e.pubB e.shB, j2, j3, j4, j5⟩)
        rw [hpl, hsl] at hsa
        refine sl_call rfl rfl (by kernel_rfl) rfl (by exact sub_) hsa ?_
        clear hsa
        rintro (_ | ⟨q2, f2, ck2⟩) hz
        · have hz0 : accE x.r lim q e.id e.t e.n e.m ≠ 0 := hz
          have hnt : ¬ tkN x lim q now e := fun h => hz0 h.2.2
          dsimp only [saH]
          generalize accE x.r lim q e.id e.t e.n e.m = z at hz0 ⊢
          refine go_Ib ?_
          exact se_mid none (by exact has_) (by dsimp only [saH]; exact sub_) hnt
        · obtain ⟨hz0, hF2, hq2⟩ := hz
          dsimp only at hF2 hq2
          have htn : tkN x lim q now e := ⟨hh, hlate, hz0⟩
          obtain ⟨j1, j2, j3, j4, j5⟩ := hJ htn
          have hfl2 : f2.l.length = cellsA (ls ++ [1 :: rcAcc e.id e.t e.pub e.sh]) * 64 := by rw [hF2.2.1, allL_len]
          have hfl3 : f2.l.length ≤ 1048576 := by rw [hfl2, cellsA_snoc]; omega
          dsimp only [saH]
          rw [hz0]
          refine go_Ib ?_
          refine sl_call rfl rfl (by kernel_rfl) rfl (by exact sub_) (ssync_ok (g := g) (gj := q2.gj) (gi := q2.gi) (gb := q2.gb) (mw := q2.mw) (ms := q2.ms) (gd := gd) (md := md) (ckd := ck2) (t := x.t) (life := q2.life) (lim := limd) (k := cellsA (ls ++ [1 :: rcAcc e.id e.t e.pub e.sh])) (K := ixb q2.gi q2.iA q2.ss.length q2.ic lim :: ixo q2.iA q2.ic q2.ss :: bB q2.gb x.t x.r q2.mb :: bM q2.mb q2.fs q2.cb :: bS q2.fs :: wM q2.mw q2.ws q2.cw :: wS q2.ws :: dMm q2.ms q2.sd q2.cs :: dSs q2.sd :: blk g12 103 (gotI q.ss e.id).cells :: blk g10 62 e.cells :: blk g8 65 (moC 0 0 none 0 0) :: blk g7 65 m.cells :: blk g4 34 x.c :: K) hF2 hfl3) ?_
          rintro f3 hF3
          rw [hfl2] at hF3
          refine go_Ib ?_
          exact se_mid (some ⟨q2, f3, ck2⟩) (by exact has_) (by dsimp only [saH]; exact sub_) ⟨htn, hF3, hq2⟩
  rintro z hz
  generalize tkE x lim q now e = code
  refine go_Ib ?_
  refine sl_pu (pu_build (v := .agg (enC e.id e.t code).toArray) rfl (fun W => build_enC _ _ _ W)) rfl ?_
  refine sl_build (size := 20) (e := 62) (cells := enC e.id e.t code) rfl (fun W => build_en enC_len W) (by rw [enC_len]) (by decide) rfl ?_
  intro gr
  refine sl_pu (pu_build (v := .agg (moC 7 0 (some ⟨gr, 0, none⟩) 1 1).toArray) rfl (fun W => build_mo7 _ _ _ W)) rfl ?_
  refine go_Ib ?_
  exact se_ret_ct (gr, z) hz rfl rfl (by exact at_) rfl rfl (by exact sz_Ib) rfl rfl (by exact sub_)
end Go.Proofs.YtocaabnbmcpjmaaGreatDoor
/- Package helper: small setups; the fixed fact of the chapter. -/
namespace Go.Proofs.YtocaabnbmcpjmaaGreatDoor
open Go.RowKit Go.MapKept
attribute [local irreducible] Go.Calls Go.Exit.then Go.Exit.inBlock Go.bodyPost Go.Code.wp Go.wpList takeL recordL hashL recL allL
/-- A setup in small numbers. -/
structure S23 where
  s : Sk
  a : Int
  b : Int
  c : Int
  k : Int
  l : Int
  h : Int
  ha : 0 ≤ a ∧ a ≤ 255
  hb : 0 ≤ b ∧ b ≤ 255
  hc : 0 ≤ c ∧ c ≤ 255
  hk : 0 ≤ k ∧ k ≤ 255
  hl : 0 ≤ l ∧ l ≤ 255
  hh : 0 ≤ h ∧ h ≤ 255
def S23.cells (z : S23) : List Value := z.s.cells ++ (sm19C z.a z.b z.c ++ [.int .u8 z.k, .int .u8 z.l, .int .u8 z.h])
theorem S23.key_ok (z : S23) : IsBytes (z.k :: 9 :: List.replicate 14 0) := fun x hx => by
  have := z.hk
  rcases List.mem_cons.1 hx with e | e
  · omega
  · rcases List.mem_cons.1 e with e | e
    · omega
    · rw [List.eq_of_mem_replicate e]; omega
def S23.key (z : S23) : Id := ⟨z.k :: 9 :: List.replicate 14 0, rfl, z.key_ok⟩
def S23.su0 (z : S23) : Su := ⟨z.s.ta, smR z.a z.b z.c, z.key, 20 + z.l % 100, z.h % 20⟩
def S23.su (z : S23) : Su := ⟨z.s.ta, ⟨(smR z.a z.b z.c).w, (smR z.a z.b z.c).mn, (smR z.a z.b z.c).mx + 20⟩, z.key, 20 + z.l % 100, z.h % 20⟩
theorem S23.len (z : S23) : z.cells.length = 14 := rfl
theorem S23.one (z : S23) : ∀ v ∈ z.cells, v.oneCell' = true := by
  intro v hv
  simp only [S23.cells, Sk.cells, sCells, sm19C, List.cons_append, List.nil_append, List.mem_cons, List.not_mem_nil, or_false] at hv
  rcases hv with rfl | rfl | rfl | rfl | rfl | rfl | rfl | rfl | rfl | rfl | rfl | rfl | rfl | rfl <;> rfl
theorem S23.rules (z : S23) : rErr z.su.r z.su.t = 0 := by
  have h1 := z.ha
  have h2 := z.hb
  have h3 := z.hc
  unfold rErr
  rw [if_neg (by simp [S23.su, z.s.ta_ok])]
  show (if 1 + z.a % 12 < 1 ∨ 1099511627776 < 1 + z.a % 12 then (6 : Int) else if 1 + z.b % 4 < 1 ∨ 1 + z.b % 4 + z.c % 6 + 20 < 1 + z.b % 4 ∨ 256 < 1 + z.b % 4 + z.c % 6 + 20 then 6 else 0) = 0
  rw [if_neg (by omega), if_neg (by omega)]
theorem S23.ok (z : S23) : z.su.err = 0 := by
  have h1 := z.hl
  have h2 := z.hh
  unfold Su.err
  rw [if_neg (by simp [z.rules])]
  show (if 20 + z.l % 100 < 1 ∨ 256 < 20 + z.l % 100 ∨ 1099511627776 < z.h % 20 then (6 : Int) else 0) = 0
  rw [if_neg (by omega)]
theorem Su.n10 (x : Su) : nth x.c 10 = some (.int .i64 x.r.mx) := by
  have := x.mr 2 (.int .i64 x.r.mx) rfl
  rw [nth_eq]
  exact this
theorem Su.set10 (x : Su) (v : Int) : SetAt 10 (.int .i64 v) x.c (Su.c ⟨x.t, ⟨x.r.w, x.r.mn, v⟩, x.key, x.lim, x.ah⟩) := SetAt.tail (k := 8) (a := x.t.c) (i := 2) rfl (SetAt.there (SetAt.there SetAt.here))
theorem S23.m0 (z : S23) : Mid z.cells 0 z.s.cells := Mid.head
theorem S23.m8 (z : S23) : Mid z.cells 8 (sm19C z.a z.b z.c) := Mid.of_append (a := z.s.cells) rfl
def suZ : Su := ⟨⟨0, 0, 0, 0, 0, 0, 0, ⟨#[]⟩⟩, ⟨0, 0, 0⟩, zId, 0, 0⟩
theorem nth_Ic {φ : Prop} (h : φ := by (first | rfl | first | exact Su.n10 _ | rfl)) : φ := h
theorem mid_Ic {φ : Prop} (h : φ := by (first | first | exact S23.m0 _ | exact S23.m8 _ | exact Su.mt _ | exact Su.mr _ | exact Su.mkey _ | exact Mid.all | exact Mid.all | exact Mid.head)) : φ := h
theorem sz_Ic {φ : Prop} (h : φ := by (first | rfl | ((try simp only [Su.len]); (first | done | rfl); first | done | fail))) : φ := h
theorem one_Ic {φ : Prop} (h : φ := by (first | assumption | exact first | exact Su.one _ | exact S23.one _ | exact one_bytes _ | (simp only [List.mem_cons, List.not_mem_nil, or_false, forall_eq_or_imp, forall_eq]; decide) | exact one_bytes _ | (intro v hv; (repeat (rcases List.mem_cons.1 hv with rfl | hv; rfl)); cases hv))) : φ := h
theorem set_Ic {φ : Prop} (h : φ := by (first | (first | exact Su.set10 _ _) | ((repeat (first | exact SetAt.here | apply SetAt.there)); first | done | fail))) : φ := h
theorem cl_Ic {φ : Prop} (h : φ := by first | rfl | exact .t | exact .f | exact .t (by omega) | exact .f (by omega) | exact .u | exact .i (by (first | exact .t (by omega) | exact .f (by omega) | exact .u | exact .i (by omega) | exact .v (by omega) | exact .b (by omega) | exact .w | rfl | omega)) | exact .v (by omega) | exact .b (by omega) | exact .q (by omega) | exact .w | exact .b (by exact at_) rfl (by exact nth_Ic) | exact .w (by exact at_) rfl rfl (by exact sz_Ic) | exact .s (by exact at_) (by exact mid_Ic) rfl rfl (by exact sz_Ic) | exact .z rfl rfl ⟨by kernel_rfl⟩ | exact .b rfl rfl ⟨by kernel_rfl⟩ | exact .a rfl rfl ⟨by kernel_rfl⟩ | exact .o rfl | exact .s | exact .n | exact .p rfl | exact .q rfl | exact .c rfl | exact .d rfl | exact .n rfl rfl (by omega) | exact .a rfl rfl (by omega) | exact .p rfl rfl (by omega) (by omega) | exact .y rfl rfl (by omega) (by omega) | exact .o (by exact at_) (by omega) rfl (by exact nth_Ic) | exact .m (by exact at_) (by omega) (by exact mid_Ic) rfl rfl (by exact sz_Ic) | exact .mlen (by exact at_) rfl | exact .t (by exact at_) rfl rfl (by first | exact True.intro | rfl) (by assumption) | exact .f (by exact at_) rfl rfl (by first | exact True.intro | rfl) (by assumption) rfl | exact .t1 (by exact at_) rfl rfl (by first | exact True.intro | rfl) (by assumption) | exact .f1 (by exact at_) rfl rfl (by first | exact True.intro | rfl) (by assumption) rfl | exact .tk (by exact at_) rfl (by assumption) (by assumption) | exact .fk (by exact at_) rfl (by assumption) (by assumption) rfl | exact .tk1 (by exact at_) rfl (by assumption) (by assumption) | exact .fk1 (by exact at_) rfl (by assumption) (by assumption) rfl | exact .r rfl rfl (by omega) (by omega) (by exact nth_Ic) rfl | exact .s rfl (by omega) (by assumption) | exact at_ | assumption | exact .r rfl rfl | exact .h rfl rfl rfl (by omega) | exact .l rfl rfl rfl (by omega) (by omega) | exact .g rfl rfl rfl rfl (by omega) (by omega) | exact .h rfl rfl (toN_ (by omega)) (by omega) | exact .l rfl rfl (toN_ (by omega)) (by omega) (by omega) | exact .g rfl rfl (toN_ (by omega)) (toN_ (by omega)) (by omega) (by omega) | exact .o (by decide) | exact .f (by decide) | exact .n (by omega) (by first | decide | (show _ ≤ ((64 : Nat) : Int); omega)) | (constructor; (repeat (first | exact .t (by omega) | exact .f (by omega) | exact .u | exact .i (by omega) | exact .v (by omega) | exact .b (by omega) | exact .w | rfl | omega)); first | done | fail) | omega | (show _ ≤ ((64 : Nat) : Int); omega)) : φ := h
theorem pv_Ic {φ : Prop} (h : φ := by constructor; (repeat exact cl_Ic); first | done | fail) : φ := h
theorem su_Ic {φ ψ : Prop} (k : ψ) (h : Hide ψ → φ := by (intro k; (first | refine sl_pu (PuI.sep (by exact pv_Ic)) rfl ?_ | refine sl_yes rfl rfl ?_ | refine sl_no rfl rfl rfl ?_ | refine sl_off rfl rfl rfl ?_ | (fail)); exact k.out)) : φ := h ⟨k⟩
theorem sto_Ic {φ ψ : Prop} (k : ψ) (h : Hide ψ → φ := by (intro k; (first | refine sl_store rfl (by exact pick_) rfl rfl (by kernel_rfl) (by exact set_Ic) ?_ | refine sl_store_whole rfl (by exact pick_) rfl (by exact sz_Ic) (by exact sz_Ic) (by exact one_Ic) ?_); exact k.out)) : φ := h ⟨k⟩
theorem go_Ic {φ ψ : Prop} (k : ψ) (h : Hide ψ → φ := by (intro k; (repeat (first | refine su_Ic ?_ | refine so_ ?_ | refine sto_Ic ?_)); exact k.out)) : φ := h ⟨k⟩
set_option maxRecDepth 100000 in
set_option maxHeartbeats 4000000 in
theorem hsetup_ok {K : List Fa} (z : S23) :
    Fn Tryz.prog 11 #[.agg z.cells.toArray] K (Ret (fun _ : Unit => True) (fun _ => .agg z.su.c.toArray) (fun _ => K)) := by
  refine fn_enter Tryz.func11 rfl _ Tryz.ntmps11 (by simp) [(0, .agg z.cells.toArray)] (args_of (by simp)) ?_
  have h1 := z.hl
  have h2 := z.hh
  refine go_Ic ?_
  refine sl_box rfl rfl rfl ?_; intro g1
  refine go_Ic ?_
  refine sl_alloc rfl rfl rfl ?_; intro g2
  refine go_Ic ?_
  refine sc_join (α := Nat) (fun g3 => [(2, .pointer (some ⟨g2, 0, none⟩)), (3, .pointer (some ⟨g3, 0, none⟩))]) (fun g3 => blk g3 34 z.su0.c :: blk g2 34 suZ.c :: K) (fun _ => True) ?_ ?_
  · refine sd_drawn (fun W => AllP W [blk g1 42 z.cells]) (fun _ => true) (by kernel_rfl) 21 rfl ?_
    refine sd_yes2 0 rfl (by exact gd_) (by kernel_rfl) (by kernel_rfl) (by exact nop_) (PuI.all (by exact pv_Ic)) rfl (fun w hw => all_ hw) ?_
    refine sd_yes2 1 rfl (by exact gd_) (by kernel_rfl) (by kernel_rfl) (by exact nop_) (PuI.all (by exact pv_Ic)) rfl (fun w hw => all_ hw) ?_
    refine sd_yes2 3 rfl (by exact gd_) (by kernel_rfl) (by kernel_rfl) (by exact nop_) (PuI.all (by exact pv_Ic)) rfl (fun w hw => all_ hw) ?_
    refine sd_yes2 4 rfl (by exact gd_) (by kernel_rfl) (by kernel_rfl) (by exact nop_) (PuI.all (by exact pv_Ic)) rfl (fun w hw => all_ hw) ?_
    refine sd_yes2 6 rfl (by exact gd_) (by kernel_rfl) (by kernel_rfl) (by exact nop_) (PuI.all (by exact pv_Ic)) rfl (fun w hw => all_ hw) ?_
    refine sd_yes2 7 rfl (by exact gd_) (by kernel_rfl) (by kernel_rfl) (by exact nop_) (PuI.all (by exact pv_Ic)) rfl (fun w hw => all_ hw) ?_
    refine sd_yes2 8 rfl (by exact gd_) (by kernel_rfl) (by kernel_rfl) (by exact nop_) (pu_build (v := z.key.v) rfl (fun W => by kernel_rfl)) rfl (fun w hw => all_ hw) ?_
    refine sd_yes2 9 rfl (by exact gd_) (by kernel_rfl) (by kernel_rfl) (by exact nop_) (PuI.all (by exact pv_Ic)) rfl (fun w hw => all_ hw) ?_
    refine sd_yes2 10 rfl (by exact gd_) (by kernel_rfl) (by kernel_rfl) (by exact nop_) (PuI.all (by exact pv_Ic)) rfl (fun w hw => all_ hw) ?_
    refine sd_yes2 11 rfl (by exact gd_) (by kernel_rfl) (by kernel_rfl) (by exact nop_) (PuI.all (by exact pv_Ic)) rfl (fun w hw => all_ hw) ?_
    refine sd_yes2 12 rfl (by exact gd_) (by kernel_rfl) (by kernel_rfl) (by exact nop_) (PuI.all (by exact pv_Ic)) rfl (fun w hw => all_ hw) ?_
    refine sd_yes2 13 rfl (by exact gd_) (by kernel_rfl) (by kernel_rfl) (by exact nop_) (PuI.all (by exact pv_Ic)) rfl (fun w hw => all_ hw) ?_
    refine sd_yes2 14 rfl (by exact gd_) (by kernel_rfl) (by kernel_rfl) (by exact nop_) (PuI.all (by exact pv_Ic)) rfl (fun w hw => all_ hw) ?_
    refine sd_yes2 15 rfl (by exact gd_) (by kernel_rfl) (by kernel_rfl) (by exact nop_) (PuI.all (by exact pv_Ic)) rfl (fun w hw => all_ hw) ?_
    refine sd_yes2 16 rfl (by exact gd_) (by kernel_rfl) (by kernel_rfl) (by exact nop_) (PuI.all (by exact pv_Ic)) rfl (fun w hw => all_ hw) ?_
    refine sd_yes2 17 rfl (by exact gd_) (by kernel_rfl) (by kernel_rfl) (by exact nop_) (PuI.all (by exact pv_Ic)) rfl (fun w hw => all_ hw) ?_
    refine sd_two 2 19 (by kernel_rfl) (sa_sl 2 rfl ?_) (sa_sl 19 rfl ?_)
    · refine sl_call rfl rfl (by kernel_rfl) rfl (by exact sub_) (stask_ok z.s) ?_
      rintro _ -
      rw [← z.s.ta_c]
      refine sl_nil ?_
      refine se_sd (fun _ w hw => all_ hw) ?_
      refine sd_two 5 19 (by kernel_rfl) (sa_sl 5 rfl ?_) (sa_sl 19 rfl ?_)
      · refine sl_call rfl rfl (by kernel_rfl) rfl (by exact sub_) (smrules_ok z.ha z.hb z.hc) ?_
        rintro _ -
        refine sl_nil ?_
        refine se_sd (fun _ w hw => all_ hw) ?_
        refine sd_yes2 18 rfl (by exact gd_) (by kernel_rfl) (by kernel_rfl) (by exact nop_) (pu_build (v := .agg z.su0.c.toArray) rfl (fun W => by kernel_rfl)) rfl (fun w hw => all_ hw) ?_
        refine sd_one 19 (by kernel_rfl) (sa_sl 19 rfl ?_)
        refine sl_alloc rfl rfl rfl ?_; intro g3
        refine sl_nil ?_
        refine se_sd (fun _ w hw => all_ hw) ?_
        refine sd_one 20 (by kernel_rfl) (sa_sl 20 rfl ?_)
        refine sl_store_whole rfl (by exact pick_) rfl (by rfl) (by rfl) (Su.one _) ?_
        refine sl_nil ?_
        refine se_sd (fun _ w hw => all_ hw) ?_
        refine sd_done (by kernel_rfl) ?_
        exact se_mid g3 (by exact has_) (by exact sub_) trivial
      · refine sl_alloc rfl rfl rfl ?_; intro g3
        refine sl_nil ?_
        refine se_sd (fun _ w hw => all_ hw) ?_
        refine sd_one 5 (by kernel_rfl) (sa_sl 5 rfl ?_)
        refine sl_call rfl rfl (by kernel_rfl) rfl (by exact sub_) (smrules_ok z.ha z.hb z.hc) ?_
        rintro _ -
        refine sl_nil ?_
        refine se_sd (fun _ w hw => all_ hw) ?_
        refine sd_yes2 18 rfl (by exact gd_) (by kernel_rfl) (by kernel_rfl) (by exact nop_) (pu_build (v := .agg z.su0.c.toArray) rfl (fun W => by kernel_rfl)) rfl (fun w hw => all_ hw) ?_
        refine sd_one 20 (by kernel_rfl) (sa_sl 20 rfl ?_)
        refine sl_store_whole rfl (by exact pick_) rfl (by rfl) (by rfl) (Su.one _) ?_
        refine sl_nil ?_
        refine se_sd (fun _ w hw => all_ hw) ?_
        refine sd_done (by kernel_rfl) ?_
        exact se_mid g3 (by exact has_) (by exact sub_) trivial
    · refine sl_alloc rfl rfl rfl ?_; intro g3
      refine sl_nil ?_
      refine se_sd (fun _ w hw => all_ hw) ?_
      refine sd_one 2 (by kernel_rfl) (sa_sl 2 rfl ?_)
      refine sl_call rfl rfl (by kernel_rfl) rfl (by exact sub_) (stask_ok z.s) ?_
      rintro _ -
      rw [← z.s.ta_c]
      refine sl_nil ?_
      refine se_sd (fun _ w hw => all_ hw) ?_
      refine sd_one 5 (by kernel_rfl) (sa_sl 5 rfl ?_)
      refine sl_call rfl rfl (by kernel_rfl) rfl (by exact sub_) (smrules_ok z.ha z.hb z.hc) ?_
      rintro _ -
      refine sl_nil ?_
      refine se_sd (fun _ w hw => all_ hw) ?_
      refine sd_yes2 18 rfl (by exact gd_) (by kernel_rfl) (by kernel_rfl) (by exact nop_) (pu_build (v := .agg z.su0.c.toArray) rfl (fun W => by kernel_rfl)) rfl (fun w hw => all_ hw) ?_
      refine sd_one 20 (by kernel_rfl) (sa_sl 20 rfl ?_)
      refine sl_store_whole rfl (by exact pick_) rfl (by rfl) (by rfl) (Su.one _) ?_
      refine sl_nil ?_
      refine se_sd (fun _ w hw => all_ hw) ?_
      refine sd_done (by kernel_rfl) ?_
      exact se_mid g3 (by exact has_) (by exact sub_) trivial
  rintro g3 -
  have hmx : (0 : Int) ≤ z.su0.r.mx ∧ z.su0.r.mx ≤ 300 := by
    show 0 ≤ 1 + z.b % 4 + z.c % 6 ∧ 1 + z.b % 4 + z.c % 6 ≤ 300
    have := z.hb
    have := z.hc
    omega
  refine go_Ic ?_
  refine se_ret_c () trivial rfl rfl (by exact at_) rfl rfl (by exact sz_Ic) rfl (by exact sub_)
structure Ig where
  j : Nat
  A : Option Addr
  c : Nat
theorem build_enC4 (id : Id) (t code : Int) (W : World) : (Instr.build 62 #[(0, id.v), (1, .int .u64 t), (3, .slice none 0 0), (4, .int .i64 code)]).run Tryz.prog W = .ok (.agg (enC id t code).toArray) W := by
  obtain ⟨a0, a1, a2, a3, a4, a5, a6, a7, a8, a9, a10, a11, a12, a13, a14, a15, h⟩ := list16m id.len
  show (Instr.build 62 #[(0, .agg (bytes id.l).toArray), (1, .int .u64 t), (3, .slice none 0 0), (4, .int .i64 code)]).run Tryz.prog W = _
  unfold enC
  rw [h]
  kernel_rfl
theorem build_mo3 (job : Int) (W : World) : (Instr.build 65 #[(0, .int .u8 3), (1, .int .u64 job)]).run Tryz.prog W = .ok (.agg (moC 3 job none 0 0).toArray) W := by kernel_rfl
end Go.Proofs.YtocaabnbmcpjmaaGreatDoor
/- Package helper: a message that asks about a report that is not there; the fixed fact of the chapter. -/
namespace Go.Proofs.YtocaabnbmcpjmaaGreatDoor
open Go.RowKit Go.MapKept
attribute [local irreducible] Go.Calls Go.Exit.then Go.Exit.inBlock Go.bodyPost Go.Code.wp Go.wpList takeL recordL hashL recL allL
theorem moC_set {k job : Int} {A B : Option Addr} {n c p d : Nat} : SetAt 21 (.slice B p d) (moC k job A n c) (moC k job B p d) := by
  have h1 := SetAt.mk (i := 21) (v := .slice B p d) (r := moC k job A n c) (by rw [moC_len]; decide)
  have e : (moC k job A n c).set 21 (.slice B p d) = moC k job B p d := by
    unfold moC mcs
    rw [List.set_append_right _ _ (by simp [bytes, zId])]
    simp [bytes, zId]
  rwa [e] at h1
theorem moC_21 {k job : Int} {A : Option Addr} {n c : Nat} : nth (moC k job A n c) 21 = some (.slice A n c) := mcs_5
theorem nth_Id {φ : Prop} (h : φ := by (first | rfl | first | exact hn5 | rfl | exact hpC_29 | exact hpC_30 | exact En.nt _ | exact En.np _ | exact En.ns _ | exact En.nc _ | exact moC_21 | exact Me.ne _ | exact enC_16 | exact enC_19 | exact mcs_5 | exact mcs_4 | exact seen_n16 | exact seen_n17)) : φ := h
theorem mid_Id {φ : Prop} (h : φ := by (first | first | exact hpC_mx | exact En.mid _ | exact Me.mid _ | exact enC_mid | exact Mid.all | exact Mid.all | exact Mid.head)) : φ := h
theorem sz_Id {φ : Prop} (h : φ := by (first | rfl | ((try simp only [Su.len, hpC_len, En.len, Me.len, moC_len, enC_len, Seen.len, bytes_length, Id.len]); (first | done | rfl); first | done | fail))) : φ := h
theorem one_Id {φ : Prop} (h : φ := by (first | assumption | exact first | exact Su.one _ | exact En.one _ | exact Me.one _ | exact mcs_one | exact enC_one | exact Seen.one _ | exact one_bytes _ | (simp only [List.mem_cons, List.not_mem_nil, or_false, forall_eq_or_imp, forall_eq]; decide) | exact one_bytes _ | (intro v hv; (repeat (rcases List.mem_cons.1 hv with rfl | hv; rfl)); cases hv))) : φ := h
theorem set_Id {φ : Prop} (h : φ := by (first | (first | exact moC_set) | ((repeat (first | exact SetAt.here | apply SetAt.there)); first | done | fail))) : φ := h
theorem cl_Id {φ : Prop} (h : φ := by first | rfl | exact .t | exact .f | exact .t (by omega) | exact .f (by omega) | exact .u | exact .i (by (first | exact .t (by omega) | exact .f (by omega) | exact .u | exact .i (by omega) | exact .v (by omega) | exact .b (by omega) | exact .w | rfl | omega)) | exact .v (by omega) | exact .b (by omega) | exact .q (by omega) | exact .w | exact .b (by exact at_) rfl (by exact nth_Id) | exact .w (by exact at_) rfl rfl (by exact sz_Id) | exact .s (by exact at_) (by exact mid_Id) rfl rfl (by exact sz_Id) | exact .z rfl rfl ⟨by kernel_rfl⟩ | exact .b rfl rfl ⟨by kernel_rfl⟩ | exact .a rfl rfl ⟨by kernel_rfl⟩ | exact .o rfl | exact .s | exact .n | exact .p rfl | exact .q rfl | exact .c rfl | exact .d rfl | exact .n rfl rfl (by omega) | exact .a rfl rfl (by omega) | exact .p rfl rfl (by omega) (by omega) | exact .y rfl rfl (by omega) (by omega) | exact .o (by exact at_) (by omega) rfl (by exact nth_Id) | exact .m (by exact at_) (by omega) (by exact mid_Id) rfl rfl (by exact sz_Id) | exact .mlen (by exact at_) rfl | exact .t (by exact at_) rfl rfl (by first | exact True.intro | rfl) (by assumption) | exact .f (by exact at_) rfl rfl (by first | exact True.intro | rfl) (by assumption) rfl | exact .t1 (by exact at_) rfl rfl (by first | exact True.intro | rfl) (by assumption) | exact .f1 (by exact at_) rfl rfl (by first | exact True.intro | rfl) (by assumption) rfl | exact .tk (by exact at_) rfl (by assumption) (by assumption) | exact .fk (by exact at_) rfl (by assumption) (by assumption) rfl | exact .tk1 (by exact at_) rfl (by assumption) (by assumption) | exact .fk1 (by exact at_) rfl (by assumption) (by assumption) rfl | exact .r rfl rfl (by omega) (by omega) (by exact nth_Id) rfl | exact .s rfl (by omega) (by assumption) | exact at_ | assumption | exact .r rfl rfl | exact .h rfl rfl rfl (by omega) | exact .l rfl rfl rfl (by omega) (by omega) | exact .g rfl rfl rfl rfl (by omega) (by omega) | exact .h rfl rfl (toN_ (by omega)) (by omega) | exact .l rfl rfl (toN_ (by omega)) (by omega) (by omega) | exact .g rfl rfl (toN_ (by omega)) (toN_ (by omega)) (by omega) (by omega) | exact .o (by decide) | exact .f (by decide) | exact .n (by omega) (by first | decide | (show _ ≤ ((64 : Nat) : Int); omega)) | (constructor; (repeat (first | exact .t (by omega) | exact .f (by omega) | exact .u | exact .i (by omega) | exact .v (by omega) | exact .b (by omega) | exact .w | rfl | omega)); first | done | fail) | omega | (show _ ≤ ((64 : Nat) : Int); omega)) : φ := h
theorem pv_Id {φ : Prop} (h : φ := by constructor; (repeat exact cl_Id); first | done | fail) : φ := h
theorem su_Id {φ ψ : Prop} (k : ψ) (h : Hide ψ → φ := by (intro k; (first | refine sl_pu (PuI.sep (by exact pv_Id)) rfl ?_ | refine sl_yes rfl rfl ?_ | refine sl_no rfl rfl rfl ?_ | refine sl_off rfl rfl rfl ?_ | (fail)); exact k.out)) : φ := h ⟨k⟩
theorem sto_Id {φ ψ : Prop} (k : ψ) (h : Hide ψ → φ := by (intro k; (first | refine sl_store rfl (by exact pick_) rfl rfl (by kernel_rfl) (by exact set_Id) ?_ | refine sl_store_whole rfl (by exact pick_) rfl (by exact sz_Id) (by exact sz_Id) (by exact one_Id) ?_); exact k.out)) : φ := h ⟨k⟩
theorem go_Id {φ ψ : Prop} (k : ψ) (h : Hide ψ → φ := by (intro k; (repeat (first | refine su_Id ?_ | refine so_ ?_ | refine sto_Id ?_)); exact k.out)) : φ := h ⟨k⟩
set_option maxRecDepth 100000 in
theorem hnone_wait {K : List Fa} {gh : Nat} {e : En} (hc : e.code ≠ 19) :
    Fn Tryz.prog 89 #[.pointer (some ⟨gh, 0, none⟩), e.v] K (Ret (fun _ : Unit => True) (fun _ => .int .i64 30) (fun _ => K)) := by
  refine fn_enter Tryz.func89 rfl _ Tryz.ntmps89 (by simp) [(0, .pointer (some ⟨gh, 0, none⟩)), (1, e.v)] (args_of (by simp)) ?_
  refine go_Id ?_
  refine sl_box rfl rfl rfl ?_; intro g3
  refine go_Id ?_
  exact se_ret1 () trivial rfl rfl (by exact sub_)
set_option maxRecDepth 100000 in
set_option maxHeartbeats 4000000 in
theorem hone_no {K : List Fa} {gh gx g : Nat} {x : Su} {t : Ta} {r : Rl} {lim : Int} {q : StM} {e : En} (hs : Srt q.ss) (hn : q.ss.length ≤ 1000000) (hno : hasI q.ss e.id = false) (hc : e.code ≠ 19) :
    Fn Tryz.prog 68 #[.pointer (some ⟨gh, 0, none⟩), e.v] (hpB gh x gx g :: sF g t r lim q K) (Ret (fun _ : Unit => True) (fun _ => .tuple #[.slice none 0 0, .int .i64 30]) (fun _ => hpB gh x gx g :: sF g t r lim q K)) := by
  refine fn_enter Tryz.func68 rfl _ Tryz.ntmps68 (by simp) [(0, .pointer (some ⟨gh, 0, none⟩)), (1, e.v)] (args_of (by simp)) ?_
  refine go_Id ?_
  refine sl_box rfl rfl rfl ?_; intro g3
  refine go_Id ?_
  refine sc_join (α := Nat) (fun g6 => [(0, .pointer (some ⟨gh, 0, none⟩)), (3, .pointer (some ⟨g3, 0, none⟩)), (4, .slice none 0 0), (6, .pointer (some ⟨g6, 0, none⟩)), (7, .bool (hasI q.ss e.id))]) (fun g6 => blk g6 103 (gotI q.ss e.id).cells :: blk g3 62 e.cells :: hpB gh x gx g :: sF g t r lim q K) (fun _ => True) ?_ ?_
  · refine sd_drawn (fun W => AllP W [hpB gh x gx g, blk g3 62 e.cells]) (fun _ => true) (by kernel_rfl) 13 rfl ?_
    refine sd_yes2 0 rfl (by exact gd_) (by kernel_rfl) (by kernel_rfl) (by exact nop_) (PuI.all (by exact pv_Id)) rfl (fun w hw => all_ hw) ?_
    refine sd_yes2 1 rfl (by exact gd_) (by kernel_rfl) (by kernel_rfl) (by exact nop_) (PuI.all (by exact pv_Id)) rfl (fun w hw => all_ hw) ?_
    refine sd_yes2 2 rfl (by exact gd_) (by kernel_rfl) (by kernel_rfl) (by exact nop_) (PuI.all (by exact pv_Id)) rfl (fun w hw => all_ hw) ?_
    refine sd_yes2 3 rfl (by exact gd_) (by kernel_rfl) (by kernel_rfl) (by exact nop_) (PuI.all (by exact pv_Id)) rfl (fun w hw => all_ hw) ?_
    refine sd_yes2 4 rfl (by exact gd_) (by kernel_rfl) (by kernel_rfl) (by exact nop_) (PuI.all (by exact pv_Id)) rfl (fun w hw => all_ hw) ?_
    refine sd_yes2 5 rfl (by exact gd_) (by kernel_rfl) (by kernel_rfl) (by exact nop_) (PuI.all (by exact pv_Id)) rfl (fun w hw => all_ hw) ?_
    refine sd_two 6 10 (by kernel_rfl) (sa_sl 6 rfl ?_) (sa_sl 10 rfl ?_)
    · refine sl_call rfl rfl (by kernel_rfl) rfl (by exact Sub.cons (by exact pick_) (Sub.cons (by exact pick_) (Sub.cons (by exact pick_) (Sub.cons (by exact pick_) (Sub.cons (by exact pick_) (Sub.cons (by exact pick_) (Sub.cons (by exact pick_) (Sub.cons (by exact pick_) (Sub.cons (by exact pick_) (Sub.cons (by exact pick_) (Sub.refl))))))))))) (sSeen_ok (g := g) (t := t) (r := r) (lim := lim) (id := e.id) hs hn) ?_
      rintro _ -
      refine sl_nil ?_
      refine se_sd (fun _ w hw => all_ hw) ?_
      refine sd_yes2 7 rfl (by exact gd_) (by kernel_rfl) (by kernel_rfl) (by exact nop_) (PuI.all (by exact pv_Id)) rfl (fun w hw => all_ hw) ?_
      refine sd_yes2 8 rfl (by exact gd_) (by kernel_rfl) (by kernel_rfl) (by exact nop_) (PuI.all (by exact pv_Id)) rfl (fun w hw => all_ hw) ?_
      refine sd_yes2 9 rfl (by exact gd_) (by kernel_rfl) (by kernel_rfl) (by exact nop_) (PuI.all (by exact pv_Id)) rfl (fun w hw => all_ hw) ?_
      refine sd_one 10 (by kernel_rfl) (sa_sl 10 rfl ?_)
      refine sl_alloc rfl rfl rfl ?_; intro g6
      refine sl_nil ?_
      refine se_sd (fun _ w hw => all_ hw) ?_
      refine sd_one 11 (by kernel_rfl) (sa_sl 11 rfl ?_)
      refine sl_store_whole (cl := (gotI q.ss e.id).cells) rfl (by exact pick_) rfl (by rw [Seen.len]; rfl) (by rw [Seen.len]; rfl) (Seen.one _) ?_
      refine sl_nil ?_
      refine se_sd (fun _ w hw => all_ hw) ?_
      refine sd_yes2 12 rfl (by exact gd_) (by kernel_rfl) (by kernel_rfl) (by exact nop_) (PuI.all (by exact pv_Id)) rfl (fun w hw => all_ hw) ?_
      refine sd_done (by kernel_rfl) ?_
      exact se_mid g6 (by exact has_) (by exact sub_) trivial
    · refine sl_alloc rfl rfl rfl ?_; intro g6
      refine sl_nil ?_
      refine se_sd (fun _ w hw => all_ hw) ?_
      refine sd_one 6 (by kernel_rfl) (sa_sl 6 rfl ?_)
      refine sl_call rfl rfl (by kernel_rfl) rfl (by exact Sub.cons (by exact pick_) (Sub.cons (by exact pick_) (Sub.cons (by exact pick_) (Sub.cons (by exact pick_) (Sub.cons (by exact pick_) (Sub.cons (by exact pick_) (Sub.cons (by exact pick_) (Sub.cons (by exact pick_) (Sub.cons (by exact pick_) (Sub.cons (by exact pick_) (Sub.refl))))))))))) (sSeen_ok (g := g) (t := t) (r := r) (lim := lim) (id := e.id) hs hn) ?_
      rintro _ -
      refine sl_nil ?_
      refine se_sd (fun _ w hw => all_ hw) ?_
      refine sd_yes2 7 rfl (by exact gd_) (by kernel_rfl) (by kernel_rfl) (by exact nop_) (PuI.all (by exact pv_Id)) rfl (fun w hw => all_ hw) ?_
      refine sd_yes2 8 rfl (by exact gd_) (by kernel_rfl) (by kernel_rfl) (by exact nop_) (PuI.all (by exact pv_Id)) rfl (fun w hw => all_ hw) ?_
      refine sd_yes2 9 rfl (by exact gd_) (by kernel_rfl) (by kernel_rfl) (by exact nop_) (PuI.all (by exact pv_Id)) rfl (fun w hw => all_ hw) ?_
      refine sd_one 11 (by kernel_rfl) (sa_sl 11 rfl ?_)
      refine sl_store_whole (cl := (gotI q.ss e.id).cells) rfl (by exact pick_) rfl (by rw [Seen.len]; rfl) (by rw [Seen.len]; rfl) (Seen.one _) ?_
      refine sl_nil ?_
      refine se_sd (fun _ w hw => all_ hw) ?_
      refine sd_yes2 12 rfl (by exact gd_) (by kernel_rfl) (by kernel_rfl) (by exact nop_) (PuI.all (by exact pv_Id)) rfl (fun w hw => all_ hw) ?_
      refine sd_done (by kernel_rfl) ?_
      exact se_mid g6 (by exact has_) (by exact sub_) trivial
  rintro g6 -
  rw [hno]
  refine go_Id ?_
  refine sl_call rfl rfl (by kernel_rfl) rfl (by exact sub_) (hnone_wait hc) ?_; rintro _ -
  refine go_Id ?_
  exact se_ret2 () trivial rfl rfl rfl rfl (by exact sub_)
set_option maxRecDepth 100000 in
set_option maxHeartbeats 4000000 in
theorem hinit1 {K : List Fa} {gh gx g gd md σ ckd : Nat} {x : Su} {t : Ta} {r : Rl} {lim limd : Int} {q : StM} {ls : List (List Int)} {f : DF} {m : Me} {e : En} (hs : Srt q.ss) (hn : q.ss.length ≤ 1000000) (hno : hasI q.ss e.id = false) (hc : e.code ≠ 19) (he : m.es = [e]) (hv : MeV K m) (hF : JFl ls σ f) (hfl : f.l.length ≤ 1048576) :
    Fn Tryz.prog 33 #[.pointer (some ⟨gh, 0, none⟩), m.v] (hpB gh x gx g :: sF g t r lim q (jC q.gj gd sj (cellsA ls) :: dB gd md limd :: dM md [f] ckd :: dS [f] :: K))
      (Ret (fun z : Ig × DF => JFl ls f.l.length z.2) (fun z => .tuple #[.agg (moC 3 m.job z.1.A 1 z.1.c).toArray, .int .i64 0]) (fun z => own 62 20 z.1.A 1 z.1.c (enC e.id e.t 30) :: hpB gh x gx g :: sF g t r lim q (jC q.gj gd sj (cellsA ls) :: dB gd md limd :: dM md [z.2] ckd :: dS [z.2] :: K))) := by
  refine fn_enter Tryz.func33 rfl _ Tryz.ntmps33 (by simp) [(0, .pointer (some ⟨gh, 0, none⟩)), (1, m.v)] (args_of (by simp)) ?_
  have hrow := hv.row
  have hl1 : m.es.length = 1 := by rw [he]; rfl
  have hmid : m.es[0]? = some e := by rw [he]; rfl
  have hmd : Mid (rows En.cells m.es) (0 * 20) e.cells := rows_mid En.len hmid
  rw [hl1] at hrow
  refine sc_know (vw_form (hrow.mono (by exact sub_)) (by omega)) ?_
  rintro ⟨ad, hA⟩
  rw [hA] at hrow
  have hn5 : nth m.cells 21 = some (.slice (some ad) 1 m.c) := by rw [m.ne, hA, hl1]
  refine go_Id ?_
  refine sl_box rfl rfl rfl ?_; intro g3
  refine go_Id ?_
  refine sl_alloc rfl rfl rfl ?_; intro g4
  refine go_Id ?_
  refine sl_pu (pu_build (v := .agg (moC 3 m.job none 0 0).toArray) rfl (fun W => build_mo3 _ W)) rfl ?_
  refine go_Id ?_
  refine sl_alloc rfl rfl rfl ?_; intro g6
  refine go_Id ?_
  refine sc_for (fun z : Ig => [(0, .pointer (some ⟨gh, 0, none⟩)), (4, .pointer (some ⟨g4, 0, none⟩)), (6, .pointer (some ⟨g6, 0, none⟩)), (16, .slice (some ad) 1 m.c), (17, .int .i64 1), (18, .int .i64 z.j)])
    (fun z => own 62 20 z.A z.j z.c (if z.j = 0 then [] else enC e.id e.t 30) :: blk g6 65 (moC 3 m.job z.A z.j z.c) :: blk g4 65 (moC 0 0 none 0 0) :: hpB gh x gx g :: sF g t r lim q (jC q.gj gd sj (cellsA ls) :: dB gd md limd :: dM md [f] ckd :: dS [f] :: K))
    (fun z => z.j ≤ 1) (fun z => 1 - z.j) ⟨0, none, 0⟩ (by exact has_) (by exact Sub.own_nil (by exact sub_)) (by decide) ?_
  rintro ⟨j, A, c⟩ hj
  dsimp only at hj ⊢
  by_cases hlt : j < 1
  · obtain rfl : j = 0 := by omega
    rw [if_pos rfl]
    refine go_Id ?_
    refine sl_pu (pu_ldrs (hrow.mono (by exact sub_)) (by omega) rfl hmd rfl rfl (by exact sz_Id)) rfl ?_
    refine go_Id ?_
    refine sl_alloc rfl rfl rfl ?_; intro g8
    refine go_Id ?_
    refine sl_call rfl rfl (by kernel_rfl) rfl (by exact sub_) (hone_no (K := blk g8 62 e.cells :: own 62 20 A 0 c [] :: blk g6 65 (moC 3 m.job A 0 c) :: blk g4 65 (moC 0 0 none 0 0) :: jC q.gj gd sj (cellsA ls) :: dB gd md limd :: dM md [f] ckd :: dS [f] :: K) (gh := gh) (gx := gx) (g := g) (x := x) (t := t) (r := r) (lim := lim) (e := e) hs hn hno hc) ?_
    rintro _ -
    refine go_Id ?_
    refine sl_pu (pu_build (v := .agg (enC e.id e.t 30).toArray) rfl (fun W => build_enC4 _ _ _ W)) rfl ?_
    refine sl_build (size := 20) (e := 62) (cells := enC e.id e.t 30) rfl (fun W => build_en enC_len W) (by rw [enC_len]) (by decide) rfl ?_
    intro gr
    refine sl_app rfl (by exact pick_) rfl (Vw.of_own (A := some ⟨gr, 0, none⟩) (c := 1) (e := 62) (by exact at_)) enC_one rfl Tryz.infoEn (by rfl) (by decide) rfl (by unfold maxLen; omega) (by omega) ?_
    intro A2 c2
    rw [Nat.zero_add, List.nil_append]
    refine go_Id ?_
    exact se_round ⟨1, A2, c2⟩ (by exact has_) (by exact sub_) (Nat.le_refl 1) (by dsimp only; omega)
  · obtain rfl : j = 1 := by omega
    rw [if_neg (by decide)]
    refine go_Id ?_
    refine sl_call rfl rfl (by kernel_rfl) rfl (by exact sub_) (ssync_ok (g := g) (gj := q.gj) (gi := q.gi) (gb := q.gb) (mw := q.mw) (ms := q.ms) (gd := gd) (md := md) (ckd := ckd) (t := t) (life := q.life) (lim := limd) (k := cellsA ls) (K := ixb q.gi q.iA q.ss.length q.ic lim :: ixo q.iA q.ic q.ss :: bB q.gb t r q.mb :: bM q.mb q.fs q.cb :: bS q.fs :: wM q.mw q.ws q.cw :: wS q.ws :: dMm q.ms q.sd q.cs :: dSs q.sd :: own 62 20 A 1 c (enC e.id e.t 30) :: blk g6 65 (moC 3 m.job A 1 c) :: blk g4 65 (moC 0 0 none 0 0) :: hpB gh x gx g :: K) hF hfl) ?_
    rintro f3 hF3
    refine go_Id ?_
    exact se_ret_ct (⟨1, A, c⟩, f3) hF3 rfl rfl (by exact at_) rfl rfl (by exact sz_Id) rfl rfl (by exact sub_)
end Go.Proofs.YtocaabnbmcpjmaaGreatDoor
