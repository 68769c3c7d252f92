/- Several texts of one claim, one behind the other (Ie, If, Ig, Ih, Ii, Iw). -/
import Derived.Test.YtocaabnbmcpjmaaGreatDoorB22
import Derived.Test.YtocaabnbmcpjmaaGreatDoorB19
import Derived.Test.YtocaabnbmcpjmaaGreatDoorTie
import Derived.Test.YtocaabnbmcpjmaaGreatDoorCards
import Derived.Deep.DeepWitnessRowRef
import Derived.Deep.DeepHandedRow
import Derived.Deep.DeepLaidRun
set_option linter.unusedVariables false
set_option linter.unusedSimpArgs false
/- Package helper: Receive; the fixed fact of the chapter. -/
namespace Go.Proofs.YtocaabnbmcpjmaaGreatDoor
open Go.RowKit Go.MapKept
attribute [local irreducible] Go.Calls Go.Exit.then Go.Exit.inBlock Go.bodyPost Go.Code.wp Go.wpList takeL recordL hashL recL allL
def zS23 : S23 := ⟨s0, 0, 0, 0, 0, 0, 0, by decide, by decide, by decide, by decide, by decide, by decide⟩
/-- An entry of an id. -/
def enI (id : Id) : En := ⟨id, 0, none, 0, 0, [], none, 0, 0, [], 0, by decide, by decide, Nat.le_refl _, Nat.le_refl _, (fun _ h => by cases h), (fun _ h => by cases h)⟩
def meI (id : Id) (g : Nat) : Me := ⟨2, 5, 0, 0, zId, 0, some ⟨g, 0, none⟩, 1, [enI id], by decide, by decide, by decide, by decide, by decide⟩
theorem meI_ck (id : Id) (g : Nat) : msgCheck (meI id g).ab = 0 := rfl
theorem build_enI (id : Id) (W : World) : (Instr.build 62 #[(0, id.v)]).run Tryz.prog W = .ok (.agg (enI id).cells.toArray) W := by
  obtain ⟨a0, a1, a2, a3, a4, a5, a6, a7, a8, a9, a10, a11, a12, a13, a14, a15, h⟩ := list16m id.len
  show (Instr.build 62 #[(0, .agg (bytes id.l).toArray)]).run Tryz.prog W = .ok (.agg (bytes id.l ++ ([.int .u64 0, .slice none 0 0, .slice none 0 0, .int .i64 0] : List Value)).toArray) W
  rw [h]
  kernel_rfl
theorem meI_v {L : List Fa} {id : Id} {g : Nat} (h : At (own 62 20 (some ⟨g, 0, none⟩) 1 1 (enI id).cells) L) : MeV L (meI id g) := fun w hw => by
  have h1 : Reads w 20 (some ⟨g, 0, none⟩) 1 (enI id).cells := Vw.of_own (e := 62) (c := 1) h w hw
  refine ⟨?_, fun e he => ?_⟩
  · show Reads w 20 (some ⟨g, 0, none⟩) 1 (rows En.cells [enI id])
    have e : rows En.cells [enI id] = (enI id).cells := by simp [rows]
    rw [e]
    exact h1
  · obtain rfl : e = enI id := List.mem_singleton.1 he
    exact ⟨Reads.nil_ _, Reads.nil_ _⟩
theorem nth_Ie {φ : Prop} (h : φ := by (first | rfl | first | exact hpC_29 | exact hpC_30 | rfl | exact enC_16 | exact enC_19 | exact mcs_5 | exact mcs_4)) : φ := h
theorem mid_Ie {φ : Prop} (h : φ := by (first | first | exact Mid.all | exact Mid.all | exact Mid.head)) : φ := h
theorem sz_Ie {φ : Prop} (h : φ := by (first | rfl | ((try simp only [Su.len, hpC_len, En.len, Me.len, moC_len, enC_len, Seen.len, bytes_length, Id.len]); (first | done | rfl); first | done | fail))) : φ := h
theorem one_Ie {φ : Prop} (h : φ := by (first | assumption | exact first | exact Su.one _ | exact En.one _ | exact Me.one _ | exact mcs_one | exact enC_one | exact Seen.one _ | exact one_bytes _ | (simp only [List.mem_cons, List.not_mem_nil, or_false, forall_eq_or_imp, forall_eq]; decide) | exact one_bytes _ | (intro v hv; (repeat (rcases List.mem_cons.1 hv with rfl | hv; rfl)); cases hv))) : φ := h
theorem set_Ie {φ : Prop} (h : φ := by (first | (fail) | ((repeat (first | exact SetAt.here | apply SetAt.there)); first | done | fail))) : φ := h
theorem cl_Ie {φ : Prop} (h : φ := by first | rfl | exact .t | exact .f | exact .t (by omega) | exact .f (by omega) | exact .u | exact .i (by (first | exact .t (by omega) | exact .f (by omega) | exact .u | exact .i (by omega) | exact .v (by omega) | exact .b (by omega) | exact .w | rfl | omega)) | exact .v (by omega) | exact .b (by omega) | exact .q (by omega) | exact .w | exact .b (by exact at_) rfl (by exact nth_Ie) | exact .w (by exact at_) rfl rfl (by exact sz_Ie) | exact .s (by exact at_) (by exact mid_Ie) rfl rfl (by exact sz_Ie) | exact .z rfl rfl ⟨by kernel_rfl⟩ | exact .b rfl rfl ⟨by kernel_rfl⟩ | exact .a rfl rfl ⟨by kernel_rfl⟩ | exact .o rfl | exact .s | exact .n | exact .p rfl | exact .q rfl | exact .c rfl | exact .d rfl | exact .n rfl rfl (by omega) | exact .a rfl rfl (by omega) | exact .p rfl rfl (by omega) (by omega) | exact .y rfl rfl (by omega) (by omega) | exact .o (by exact at_) (by omega) rfl (by exact nth_Ie) | exact .m (by exact at_) (by omega) (by exact mid_Ie) rfl rfl (by exact sz_Ie) | exact .mlen (by exact at_) rfl | exact .t (by exact at_) rfl rfl (by first | exact True.intro | rfl) (by assumption) | exact .f (by exact at_) rfl rfl (by first | exact True.intro | rfl) (by assumption) rfl | exact .t1 (by exact at_) rfl rfl (by first | exact True.intro | rfl) (by assumption) | exact .f1 (by exact at_) rfl rfl (by first | exact True.intro | rfl) (by assumption) rfl | exact .tk (by exact at_) rfl (by assumption) (by assumption) | exact .fk (by exact at_) rfl (by assumption) (by assumption) rfl | exact .tk1 (by exact at_) rfl (by assumption) (by assumption) | exact .fk1 (by exact at_) rfl (by assumption) (by assumption) rfl | exact .r rfl rfl (by omega) (by omega) (by exact nth_Ie) rfl | exact .s rfl (by omega) (by assumption) | exact at_ | assumption | exact .r rfl rfl | exact .h rfl rfl rfl (by omega) | exact .l rfl rfl rfl (by omega) (by omega) | exact .g rfl rfl rfl rfl (by omega) (by omega) | exact .h rfl rfl (toN_ (by omega)) (by omega) | exact .l rfl rfl (toN_ (by omega)) (by omega) (by omega) | exact .g rfl rfl (toN_ (by omega)) (toN_ (by omega)) (by omega) (by omega) | exact .o (by decide) | exact .f (by decide) | exact .n (by omega) (by first | decide | (show _ ≤ ((64 : Nat) : Int); omega)) | (constructor; (repeat (first | exact .t (by omega) | exact .f (by omega) | exact .u | exact .i (by omega) | exact .v (by omega) | exact .b (by omega) | exact .w | rfl | omega)); first | done | fail) | omega | (show _ ≤ ((64 : Nat) : Int); omega)) : φ := h
theorem pv_Ie {φ : Prop} (h : φ := by constructor; (repeat exact cl_Ie); first | done | fail) : φ := h
theorem su_Ie {φ ψ : Prop} (k : ψ) (h : Hide ψ → φ := by (intro k; (first | refine sl_pu (PuI.sep (by exact pv_Ie)) rfl ?_ | refine sl_yes rfl rfl ?_ | refine sl_no rfl rfl rfl ?_ | refine sl_off rfl rfl rfl ?_ | (fail)); exact k.out)) : φ := h ⟨k⟩
theorem sto_Ie {φ ψ : Prop} (k : ψ) (h : Hide ψ → φ := by (intro k; (first | refine sl_store rfl (by exact pick_) rfl rfl (by kernel_rfl) (by exact set_Ie) ?_ | refine sl_store_whole rfl (by exact pick_) rfl (by exact sz_Ie) (by exact sz_Ie) (by exact one_Ie) ?_); exact k.out)) : φ := h ⟨k⟩
theorem go_Ie {φ ψ : Prop} (k : ψ) (h : Hide ψ → φ := by (intro k; (repeat (first | refine su_Ie ?_ | refine so_ ?_ | refine sto_Ie ?_)); exact k.out)) : φ := h ⟨k⟩
set_option maxRecDepth 100000 in
set_option maxHeartbeats 4000000 in
theorem hrecv1 {K : List Fa} {gh gx g gd md σ ckd : Nat} {x : Su} {t : Ta} {r : Rl} {lim limd now : Int} {q : StM} {ls : List (List Int)} {f : DF} {m : Me} {e : En} (hs : Srt q.ss) (hn : q.ss.length ≤ 1000000) (hno : hasI q.ss e.id = false) (hc : e.code ≠ 19) (he : m.es = [e]) (hk : m.kind = 2) (hck : msgCheck m.ab = 0) (hv : MeV K m) (hF : JFl ls σ f) (hfl : f.l.length ≤ 1048576) :
    Fn Tryz.prog 15 #[.pointer (some ⟨gh, 0, none⟩), .int .u64 now, m.v] (hpB gh x gx g :: sF g t r lim q (jC q.gj gd sj (cellsA ls) :: dB gd md limd :: dM md [f] ckd :: dS [f] :: K))
      (Ret (fun z : Ig × DF => JFl ls f.l.length z.2) (fun z => .tuple #[.agg (moC 3 m.job z.1.A 1 z.1.c).toArray, .int .i64 0]) (fun z => own 62 20 z.1.A 1 z.1.c (enC e.id e.t 30) :: hpB gh x gx g :: sF g t r lim q (jC q.gj gd sj (cellsA ls) :: dB gd md limd :: dM md [z.2] ckd :: dS [z.2] :: K))) := by
  refine fn_enter Tryz.func15 rfl _ Tryz.ntmps15 (by simp) [(0, .pointer (some ⟨gh, 0, none⟩)), (1, .int .u64 now), (2, m.v)] (args_of (by simp)) ?_
  have hl1 : m.es.length = 1 := by rw [he]; rfl
  refine go_Ie ?_
  refine sl_box rfl rfl rfl ?_; intro g5
  refine go_Ie ?_
  refine sl_alloc rfl rfl rfl ?_; intro g6
  refine go_Ie ?_
  refine sl_call rfl rfl (by kernel_rfl) rfl (by exact sub_) (Check_ok (m := m) (hv.mono (by exact sub_)) (by omega)) ?_; rintro _ -
  rw [hck]
  refine go_Ie ?_
  refine sl_call rfl rfl (by kernel_rfl) rfl (by exact sub_) (hinit1 (K := blk g6 65 (moC 0 0 none 0 0) :: blk g5 65 m.cells :: K) (gh := gh) (gx := gx) (g := g) (gd := gd) (md := md) (ckd := ckd) (x := x) (t := t) (r := r) (lim := lim) (limd := limd) (q := q) (f := f) (e := e) hs hn hno hc he (hv.mono (by exact sub_)) hF hfl) ?_
  rintro ⟨z, f3⟩ hF3
  dsimp only at hF3 ⊢
  refine go_Ie ?_
  exact se_ret_ct (z, f3) hF3 rfl rfl (by exact at_) rfl rfl (by exact sz_Ie) rfl rfl (by exact sub_)
set_option maxRecDepth 100000 in
set_option maxHeartbeats 8000000 in
theorem awake23 {K : List Fa} :
    Fn Tryz.prog 6 #[] K (Ret (fun _ : Unit => True) (fun _ => .bool true) (fun _ => K)) := by
  refine fn_enter Tryz.func6 rfl _ Tryz.ntmps6 (by simp) [] (args_of (by simp)) ?_
  refine go_Ie ?_
  refine sl_pu (pu_build (v := .agg zS23.cells.toArray) rfl (fun W => by kernel_rfl)) rfl ?_
  refine sl_call rfl rfl (by kernel_rfl) rfl (by exact sub_) (hsetup_ok zS23) ?_; rintro _ -
  obtain ⟨x, hx⟩ : ∃ x, x = zS23.su := ⟨_, rfl⟩
  have hxe : x.err = 0 := by rw [hx]; exact zS23.ok
  rw [← hx]
  refine go_Ie ?_
  refine sl_alloc rfl rfl rfl ?_; intro g1
  refine go_Ie ?_
  refine sc_join (α := OpR × Nat × Nat × Nat × Nat) (fun z => [(1, .pointer (some ⟨g1, 0, none⟩)), (2, .pointer (some ⟨z.2.1, 0, none⟩)), (3, .int .i64 0)]) (fun z => hpB z.2.1 x z.2.2.1 z.1.g :: sF z.1.g x.t x.r (min (max x.lim 0) 256) z.1.q (jC z.1.q.gj z.2.2.2.1 sj (cellsA [5 :: rcLife 1]) :: dB z.2.2.2.1 z.2.2.2.2 100000 :: dM z.2.2.2.2 [z.1.f] z.1.ck :: dS [z.1.f] :: K))
    (fun z => ∃ p, iN0 p z.1.g 0 { z.1.q with life := 0 } ∧ z.1.q.life = 1 ∧ JFl [5 :: rcLife 1] 64 z.1.f) ?_ ?_
  · refine sd_drawn (fun W => AllP W [blk g1 34 x.c]) (fun _ => true) (by kernel_rfl) 9 rfl ?_
    refine sd_yes2 0 rfl (by exact gd_) (by kernel_rfl) (by kernel_rfl) (by exact nop_) (PuI.all (by exact pv_Ie)) rfl (fun w hw => all_ hw) ?_
    refine sd_one 1 (by kernel_rfl) (sa_sl 1 rfl ?_)
    refine sl_call rfl rfl (by kernel_rfl) rfl (by exact sub_) xreal_ok ?_
    rintro gx -
    refine sl_nil ?_
    refine se_sd (fun _ w hw => all_ hw) ?_
    refine sd_one 2 (by kernel_rfl) (sa_sl 2 rfl ?_)
    refine sl_call rfl rfl (by kernel_rfl) rfl (by exact sub_) newD_ok ?_
    rintro ⟨gd, md⟩ -
    dsimp only
    rw [show limL 100000 = 100000 by rfl]
    refine sl_nil ?_
    refine se_sd (fun _ w hw => all_ hw) ?_
    refine sd_one 3 (by kernel_rfl) (sa_sl 3 rfl ?_)
    refine sl_call rfl rfl (by kernel_rfl) rfl (by exact sub_) (hnew_ok (α := OpR) (K := xoB gx :: blk g1 34 x.c :: K) (gx := gx) (gd := gd) (gk := fun o : OpR => o.g) (D := fun E => dB gd md 100000 :: dM md [] 0 :: dS [] :: E) (H := fun (o : OpR) E => sF o.g x.t x.r (min (max x.lim 0) 256) o.q (jC o.q.gj gd sj (cellsA [5 :: rcLife 1]) :: dB gd md 100000 :: dM md [o.f] o.ck :: dS [o.f] :: E)) hxe (fun f E => by exact sub_) (fun o f E => by exact sub_) (fun E => hop0 (K0 := E) (limd := 100000) (Su.err_r hxe).1 (by decide))) ?_
    rintro ⟨o, gh⟩ ho
    dsimp only at ho ⊢
    refine sl_nil ?_
    refine se_sd (fun _ w hw => all_ hw) ?_
    refine sd_yes2 4 rfl (by exact gd_) (by kernel_rfl) (by kernel_rfl) (by exact nop_) (PuI.all (by exact pv_Ie)) rfl (fun w hw => all_ hw) ?_
    refine sd_yes2 5 rfl (by exact gd_) (by kernel_rfl) (by kernel_rfl) (by exact nop_) (PuI.all (by exact pv_Ie)) rfl (fun w hw => all_ hw) ?_
    refine sd_yes2 6 rfl (by exact gd_) (by kernel_rfl) (by kernel_rfl) (by exact nop_) (PuI.all (by exact pv_Ie)) rfl (fun w hw => all_ hw) ?_
    refine sd_yes2 7 rfl (by exact gd_) (by kernel_rfl) (by kernel_rfl) (by exact nop_) (PuI.all (by exact pv_Ie)) rfl (fun w hw => all_ hw) ?_
    refine sd_yes2 8 rfl (by exact gd_) (by kernel_rfl) (by kernel_rfl) (by exact nop_) (PuI.all (by exact pv_Ie)) rfl (fun w hw => all_ hw) ?_
    refine sd_done (by kernel_rfl) ?_
    exact se_mid (o, gh, gx, gd, md) (by exact has_) (by exact sub_) ho
  rintro ⟨⟨g, q, f, ck⟩, gh, gx, gd, md⟩ ⟨p, ⟨i1, i2, i3, i4, i5, i6⟩, hl, hF⟩
  dsimp only at i1 i2 i3 i4 i5 i6 hl hF ⊢
  have hfl : f.l.length = 64 := by rw [hF.2.1, allL_len]; decide
  refine go_Ie ?_
  refine sl_pu (pu_build (v := bid1.v) rfl (fun W => by kernel_rfl)) rfl ?_
  refine sl_pu (pu_build (v := .agg (enI bid1).cells.toArray) rfl (fun W => build_enI _ W)) rfl ?_
  refine sl_build (size := 20) (e := 62) (cells := (enI bid1).cells) rfl (fun W => build_en (En.len _) W) (by rw [En.len]) (by decide) rfl ?_
  intro ge
  refine sl_pu (pu_build (v := (meI bid1 ge).v) rfl (fun W => by kernel_rfl)) rfl ?_
  refine go_Ie ?_
  refine sl_call rfl rfl (by kernel_rfl) rfl (by exact sub_) (hrecv1 (K := own 62 20 (some ⟨ge, 0, none⟩) 1 1 (enI bid1).cells :: K) (gh := gh) (gx := gx) (g := g) (gd := gd) (md := md) (ckd := ck) (x := x) (t := x.t) (r := x.r) (lim := min (max x.lim 0) 256) (limd := 100000) (q := q) (ls := [5 :: rcLife 1]) (f := f) (m := meI bid1 ge) (e := enI bid1) (by rw [i2]; exact srt_nil) (by rw [i2]; decide) (by rw [i2]; rfl) (by decide) rfl rfl (meI_ck bid1 ge) (meI_v .here) hF (by omega)) ?_
  rintro ⟨⟨zj, A, c⟩, f3⟩ hF3
  dsimp only at hF3 ⊢
  rw [show (meI bid1 ge).job = 5 from rfl]
  refine sl_form (A := A) (by exact at_) (by decide) ?_
  rintro ga rfl
  refine go_Ie ?_
  refine sl_alloc rfl rfl rfl ?_; intro g4
  refine go_Ie ?_
  refine sl_pu (pu_ldr (i := 19) (Vw.of_own (e := 62) (A := some ⟨ga, 0, none⟩) (c := c) (by exact at_)) (by decide) rfl rfl enC_19) rfl ?_
  refine go_Ie ?_
  exact se_ret1 () trivial rfl rfl (by exact sub_)
end Go.Proofs.YtocaabnbmcpjmaaGreatDoor
/- HelperSetups: the walk. -/
namespace Go.Proofs.YtocaabnbmcpjmaaGreatDoor
open Go.RowKit Go.MapKept
attribute [local irreducible] Go.Calls Go.Exit.then Go.Exit.inBlock Go.bodyPost Go.Code.wp Go.wpList takeL recordL hashL recL allL
end Go.Proofs.YtocaabnbmcpjmaaGreatDoor
/- Setups, and small ones, as they come in. (The openers are printed by wip/tools/gen_open.py.) -/
namespace Go.Proofs.YtocaabnbmcpjmaaGreatDoor
open Go.RowKit Go.ChangeShapes Go.WideShapes Go.Deep
section
variable {H : Type} {enc : TypeId × Value → H} {w : World} {base : Nat} {spare : Nat → Bool} {held : Bool} {fuel : Nat} {cs : List Value} {x : DataW H × List MemPlace}
def SkP (cs : List Value) : Prop := ∃ s : Sk, cs = s.cells
theorem open_sm13c (h : DataW.trod enc Tryz.prog w base spare held fuel 38 cs = some x) : ∃ z : List Value, cs = z ∧ SkP z := by
  obtain ⟨z, p, t, h1, ⟨k, f, b, l, w, c, h2, hk, hf, hb, hl, hw, hc⟩, hp, ht⟩ := open_sm13 h
  subst h2
  exact ⟨_, rfl, ⟨k, f, b, l, w, c, p, t, hk, hf, hb, hl, hw, hc, hp, ht⟩, h1⟩
def S19P (cs : List Value) : Prop := ∃ a b c : Int, cs = sm19C a b c ∧ (0 ≤ a ∧ a ≤ 255) ∧ (0 ≤ b ∧ b ≤ 255) ∧ (0 ≤ c ∧ c ≤ 255)
theorem open_sm19c (h : DataW.trod enc Tryz.prog w base spare held fuel 40 cs = some x) : ∃ z : List Value, cs = z ∧ S19P z := by
  obtain ⟨a, b, c, h1, h2⟩ := open_sm19 h
  exact ⟨_, rfl, a, b, c, h1, h2⟩
theorem open_sm23 (h : DataW.trod enc Tryz.prog w base spare held fuel 42 cs = some x) : ∃ (z0 : List Value) (z1 : List Value) (z2 : Int) (z3 : Int) (z4 : Int), cs = z0 ++ (z1 ++ ([Value.int .u8 z2] ++ ([Value.int .u8 z3] ++ ([Value.int .u8 z4] ++ [])))) ∧ (SkP z0) ∧ (S19P z1) ∧ (0 ≤ z2 ∧ z2 ≤ 255) ∧ (0 ≤ z3 ∧ z3 ≤ 255) ∧ (0 ≤ z4 ∧ z4 ≤ 255) := by
  obtain ⟨hl, m, hf⟩ := open_struct Tryz.underlying42 h
  have hl' : cs.length = 14 := hl.trans (by kernel_rfl)
  have n0 : Tryz.prog.cellsOf 38 = 8 := by kernel_rfl
  have n1 : Tryz.prog.cellsOf 40 = 3 := by kernel_rfl
  have n2 : Tryz.prog.cellsOf 5 = 1 := by kernel_rfl
  have n3 : Tryz.prog.cellsOf 5 = 1 := by kernel_rfl
  have n4 : Tryz.prog.cellsOf 5 = 1 := by kernel_rfl
  obtain ⟨y0, e0⟩ := hf 0 _ rfl
  have f0 : DataW.trod enc Tryz.prog w base spare held m 38 ((cs.drop 0).take (Tryz.prog.cellsOf 38)) = some y0 := e0
  rw [n0] at f0
  obtain ⟨y1, e1⟩ := hf 1 _ rfl
  have f1 : DataW.trod enc Tryz.prog w base spare held m 40 ((cs.drop 8).take (Tryz.prog.cellsOf 40)) = some y1 := e1
  rw [n1] at f1
  obtain ⟨y2, e2⟩ := hf 2 _ rfl
  have f2 : DataW.trod enc Tryz.prog w base spare held m 5 ((cs.drop 11).take (Tryz.prog.cellsOf 5)) = some y2 := e2
  rw [n2] at f2
  obtain ⟨y3, e3⟩ := hf 3 _ rfl
  have f3 : DataW.trod enc Tryz.prog w base spare held m 5 ((cs.drop 12).take (Tryz.prog.cellsOf 5)) = some y3 := e3
  rw [n3] at f3
  obtain ⟨y4, e4⟩ := hf 4 _ rfl
  have f4 : DataW.trod enc Tryz.prog w base spare held m 5 ((cs.drop 13).take (Tryz.prog.cellsOf 5)) = some y4 := e4
  rw [n4] at f4
  obtain ⟨z0, g0, b0⟩ := open_sm13c f0
  obtain ⟨z1, g1, b1⟩ := open_sm19c f1
  obtain ⟨z2, g2, _, u2⟩ := DataW.trod_int Tryz.underlying5 f2
  have b2 : 0 ≤ z2 ∧ z2 ≤ 255 := by simpa [Lit.wf, IntKind.min, IntKind.max, IntKind.signed, IntKind.bits] using u2
  obtain ⟨z3, g3, _, u3⟩ := DataW.trod_int Tryz.underlying5 f3
  have b3 : 0 ≤ z3 ∧ z3 ≤ 255 := by simpa [Lit.wf, IntKind.min, IntKind.max, IntKind.signed, IntKind.bits] using u3
  obtain ⟨z4, g4, _, u4⟩ := DataW.trod_int Tryz.underlying5 f4
  have b4 : 0 ≤ z4 ∧ z4 ≤ 255 := by simpa [Lit.wf, IntKind.min, IntKind.max, IntKind.signed, IntKind.bits] using u4
  have hp : cs = (cs.drop 0).take 8 ++ ((cs.drop 8).take 3 ++ ((cs.drop 11).take 1 ++ ((cs.drop 12).take 1 ++ ((cs.drop 13).take 1 ++ [])))) := by
    rw [← piece_end hl', ← piece 13 1 14 rfl, ← piece 12 1 13 rfl, ← piece 11 1 12 rfl, ← piece 8 3 11 rfl, ← piece 0 8 8 rfl, List.drop_zero]
  rw [g0, g1, g2, g3, g4] at hp
  exact ⟨z0, z1, z2, z3, z4, hp, b0, b1, b2, b3, b4⟩
def S23V (_ : World) (v : Value) : Prop := ∃ z : S23, v = .agg z.cells.toArray
theorem open_sm23_v {v : Value} (h : DataW.trod enc Tryz.prog w base spare held fuel 42 v.cells.toList = some x) (hv : ∃ cs, v = .agg cs) : S23V w v := by
  obtain ⟨cs, rfl⟩ := hv
  obtain ⟨z0, z1, z2, z3, z4, h1, ⟨s, rfl⟩, ⟨a, b, c, rfl, ha, hb, hc⟩, hk, hl, hh⟩ := open_sm23 h
  have h3 : cs.toList = S23.cells ⟨s, a, b, c, z2, z3, z4, ha, hb, hc, hk, hl, hh⟩ := h1
  exact ⟨_, by rw [← h3]⟩
end
end Go.Proofs.YtocaabnbmcpjmaaGreatDoor
/- HelperTakes: the walk. -/
namespace Go.Proofs.YtocaabnbmcpjmaaGreatDoor
open Go.RowKit Go.MapKept
attribute [local irreducible] Go.Calls Go.Exit.then Go.Exit.inBlock Go.bodyPost Go.Code.wp Go.wpList takeL recordL hashL recL allL
def enT (id : Id) (t : Int) (h : 0 ≤ t ∧ t ≤ 18446744073709551615) : En := ⟨id, t, none, 0, 0, [], none, 0, 0, [], 0, h, by decide, Nat.le_refl _, Nat.le_refl _, (fun _ h => by cases h), (fun _ h => by cases h)⟩
def meT (k : Int) (hk : 0 ≤ k ∧ k ≤ 255) (g : Nat) (e : En) : Me := ⟨k, 0, 0, 0, zId, 0, some ⟨g, 0, none⟩, 1, [e], hk, by decide, by decide, by decide, by decide⟩
theorem kb1 : (0 : Int) ≤ 1 ∧ (1 : Int) ≤ 255 := by decide
theorem build_enT {id : Id} {t : Int} {h : 0 ≤ t ∧ t ≤ 18446744073709551615} (W : World) : (Instr.build 62 #[(0, id.v), (1, .int .u64 t)]).run Tryz.prog W = .ok (.agg (enT id t h).cells.toArray) W := by
  obtain ⟨a0, a1, a2, a3, a4, a5, a6, a7, a8, a9, a10, a11, a12, a13, a14, a15, h⟩ := list16m id.len
  show (Instr.build 62 #[(0, .agg (bytes id.l).toArray), (1, .int .u64 t)]).run Tryz.prog W = .ok (.agg (bytes id.l ++ ([.int .u64 t, .slice none 0 0, .slice none 0 0, .int .i64 0] : List Value)).toArray) W
  rw [h]
  kernel_rfl
theorem meT_21 {k : Int} {hk : 0 ≤ k ∧ k ≤ 255} {g : Nat} {e : En} : nth (meT k hk g e).cells 21 = some (.slice (some ⟨g, 0, none⟩) 1 1) := mcs_5
theorem meT_set {k j : Int} {hk : 0 ≤ k ∧ k ≤ 255} {hj : 0 ≤ j ∧ j ≤ 255} {g : Nat} {e : En} : SetAt 0 (.int .u8 j) (meT k hk g e).cells (meT j hj g e).cells := SetAt.here
theorem enT_set {id : Id} {t t' : Int} {h : 0 ≤ t ∧ t ≤ 18446744073709551615} {h' : 0 ≤ t' ∧ t' ≤ 18446744073709551615} : (enT id t h).cells.set 16 (.int .u64 t') = (enT id t' h').cells :=
  (SetAt.tail (k := 16) (a := bytes id.l) (i := 0) (by rw [bytes_length, id.len]) SetAt.here : SetAt 16 (.int .u64 t') (enT id t h).cells (enT id t' h').cells).eq.2
theorem meT_v {L : List Fa} {e : En} {k : Int} {hk : 0 ≤ k ∧ k ≤ 255} {g : Nat} (he : e.A = none ∧ e.n = 0 ∧ e.B = none ∧ e.m = 0) (h : At (own 62 20 (some ⟨g, 0, none⟩) 1 1 e.cells) L) : MeV L (meT k hk g e) := fun w hw => by
  have h1 : Reads w 20 (some ⟨g, 0, none⟩) 1 e.cells := Vw.of_own (e := 62) (c := 1) h w hw
  obtain ⟨e1, e2, e3, e4⟩ := he
  refine ⟨?_, fun e' he' => ?_⟩
  · show Reads w 20 (some ⟨g, 0, none⟩) 1 (rows En.cells [e])
    have h2 : rows En.cells [e] = e.cells := by simp [rows]
    rw [h2]
    exact h1
  · obtain rfl : e' = e := List.mem_singleton.1 he'
    refine ⟨?_, ?_⟩
    · rw [e1, e2, show e'.pub = [] by simp [En.pub, e2]]
      exact Reads.nil_ _
    · rw [e3, e4, show e'.sh = [] by simp [En.sh, e4]]
      exact Reads.nil_ _
theorem take_same {K : List Fa} {x : Su} {g gd md ckd : Nat} {lim limd now code : Int} {q : StM} {ls : List (List Int)} {f : DF} {m : Me} {e : En} (hrw : 0 ≤ x.r.w) (hlm : 0 ≤ lim ∧ lim ≤ 256) (hs : Srt q.ss) (hn : q.ss.length ≤ 1000000)
    (hno : ∀ id, hasI q.ss id = false → wfind q.ws id = none) (hk : m.kind = 1) (he : m.es = [e]) (hv : MeV K m) (hna : 0 ≤ now ∧ 0 ≤ x.ah ∧ now + x.ah ≤ 18446744073709551615) (hnt : ¬ tkN x lim q now e) (hc : tkE x lim q now e = code) :
    Fn Tryz.prog 14 #[.agg x.c.toArray, .pointer (some ⟨g, 0, none⟩), .int .u64 now, m.v] (sF g x.t x.r lim q (jC q.gj gd sj (cellsA ls) :: dB gd md limd :: dM md [f] ckd :: dS [f] :: K))
      (Ret (fun _ : Nat => True) (fun z => .tuple #[.agg (moC 7 0 (some ⟨z, 0, none⟩) 1 1).toArray, .int .i64 0]) (fun z => own 62 20 (some ⟨z, 0, none⟩) 1 1 (enC e.id e.t code) :: sF g x.t x.r lim q (jC q.gj gd sj (cellsA ls) :: dB gd md limd :: dM md [f] ckd :: dS [f] :: K))) := by
  have h := htake_ok (K := K) (g := g) (gd := gd) (md := md) (σ := 0) (ckd := ckd) (limd := limd) (ls := ls) (f := f) (x := x) hrw hlm hs hn hno hk he hv hna (fun h => (hnt h).elim)
  refine h.say fun z w hz hw => ?_
  obtain ⟨ga, z⟩ := z
  cases z with
  | some z => exact (hnt hz.1).elim
  | none => subst hc; exact ⟨ga, trivial, rfl, hw⟩
theorem take_new {K : List Fa} {x : Su} {g gd md ckd : Nat} {lim now : Int} {q : StM} {f : DF} {m : Me} {e : En} (hrw : 0 ≤ x.r.w) (hlm : 0 ≤ lim ∧ lim ≤ 256) (hs : Srt q.ss) (hn : q.ss.length ≤ 1000000)
    (hno : ∀ id, hasI q.ss id = false → wfind q.ws id = none) (hk : m.kind = 1) (he : m.es = [e]) (hv : MeV K m) (hna : 0 ≤ now ∧ 0 ≤ x.ah ∧ now + x.ah ≤ 18446744073709551615) (hnt : tkN x lim q now e) (hF : JFl [5 :: rcLife 1] 64 f) (hp : e.pub = [] ∧ e.sh = []) :
    Fn Tryz.prog 14 #[.agg x.c.toArray, .pointer (some ⟨g, 0, none⟩), .int .u64 now, m.v] (sF g x.t x.r lim q (jC q.gj gd sj (cellsA [5 :: rcLife 1]) :: dB gd md 100000 :: dM md [f] ckd :: dS [f] :: K))
      (Ret (fun z : Nat × AcR => ∃ A1 c1 pA pc sA sc, z.2.q = q.acc lim ⟨e.id, e.t, 30, e.tb, by decide⟩ A1 c1 ⟨e.id, e.t, pA, pc, e.pub, sA, sc, e.sh, q.cw⟩) (fun z => .tuple #[.agg (moC 7 0 (some ⟨z.1, 0, none⟩) 1 1).toArray, .int .i64 0])
        (fun z => own 62 20 (some ⟨z.1, 0, none⟩) 1 1 (enC e.id e.t 0) :: sF g x.t x.r lim z.2.q (jC z.2.q.gj gd sj (cellsA ([5 :: rcLife 1] ++ [1 :: rcAcc e.id e.t [] []])) :: dB gd md 100000 :: dM md [z.2.f] z.2.ck :: dS [z.2.f] :: K))) := by
  have hc1 : cellsA [5 :: rcLife 1] = 1 := by decide
  have h := htake_ok (K := K) (g := g) (gd := gd) (md := md) (σ := 64) (ckd := ckd) (limd := 100000) (ls := [5 :: rcLife 1]) (f := f) (x := x) hrw hlm hs hn hno hk he hv hna (fun _ => by
    have hl : (1 :: rcAcc e.id e.t e.pub e.sh).length ≤ 5000 := by rw [rcAcc_len, hp.1, hp.2]; decide
    have := many_le hl
    exact ⟨.inr ⟨f, rfl, hF⟩, hl, by rw [hc1]; decide, by rw [hc1]; omega, by decide⟩)
  refine h.say fun z w hz hw => ?_
  obtain ⟨ga, z⟩ := z
  cases z with
  | none => exact (hz hnt).elim
  | some z =>
    obtain ⟨_, _, hz⟩ := hz
    have ht : tkE x lim q now e = 0 := by
      unfold tkE
      rw [if_neg (by rw [hnt.1]; decide), if_neg hnt.2.1]
      exact hnt.2.2
    dsimp only [saH] at hw
    rw [ht] at hw
    rw [show rcAcc e.id e.t e.pub e.sh = rcAcc e.id e.t [] [] by rw [hp.1, hp.2]] at hw
    exact ⟨(ga, z), hz, rfl, hw⟩
/-- An empty store takes up what fits. -/
theorem tkN_new {x : Su} {lim now : Int} {q : StM} {e : En} (h1 : q.ss = []) (h2 : q.fs = []) (h3 : ¬ now + x.ah < e.t) (h4 : e.n = 0 ∧ e.m = 0) (h5 : 1 ≤ lim) (h6 : e.t ≤ 1099511627776) (h7 : 0 < x.r.mx) : tkN x lim q now e := by
  refine ⟨by rw [h1]; rfl, h3, ?_⟩
  unfold accE
  rw [h1, h2, h4.1, h4.2]
  rw [if_neg (by simp [hasI]), if_neg (by decide), if_neg (by simp; omega)]
  unfold fitsE
  rw [if_neg (by omega)]
  show (if ([] : List BK).length = 32 then (5 : Int) else if x.r.mx ≤ 0 then 18 else 0) = 0
  rw [if_neg (by decide), if_neg (by omega)]
theorem add1 {lim : Int} {s : Seen} (h1 : s.t ≤ 1099511627776) (h2 : 1 ≤ lim) : addI lim [] s = (0, [s]) := by
  unfold addI
  rw [if_neg (by omega), if_neg (by simp [hasI]), if_neg (by simp; omega)]
  rfl
theorem has1 {s : Seen} {id : Id} : hasI [s] id = decide (cmpI s.id.l id.l = 0) := by simp [hasI]
theorem has1_self {s : Seen} : hasI [s] s.id = true := by rw [has1, cmpI_self]; rfl
theorem got1 {s : Seen} : gotI [s] s.id = s := by
  unfold gotI
  rw [if_pos has1_self]
  obtain ⟨u, h1, h2⟩ := hasI_pos (srt_one s) has1_self
  unfold getI
  rw [h1]
  exact List.mem_singleton.1 (List.mem_of_getElem? h1)
theorem acc1 {lim : Int} {q : StM} {s : Seen} {A : Option Addr} {c : Nat} {w : Wt} (h1 : q.ss = []) (h2 : q.ws = []) (h3 : s.t ≤ 1099511627776) (h4 : 1 ≤ lim) (h5 : w.id = s.id) : (q.acc lim s A c w).ss = [s] ∧ ∀ id, hasI (q.acc lim s A c w).ss id = false → wfind (q.acc lim s A c w).ws id = none := by
  have e1 : (q.acc lim s A c w).ss = [s] := by
    show (addI lim q.ss s).2 = _
    rw [h1, add1 h3 h4]
  refine ⟨e1, fun id h => ?_⟩
  rw [e1, has1] at h
  show wfind (if (addI lim q.ss s).1 = 0 then q.ws ++ [w] else q.ws) id = none
  rw [h1, add1 h3 h4, h2, if_pos rfl]
  unfold wfind
  rw [List.nil_append, List.find?_eq_none]
  intro u hu h0
  obtain rfl := List.mem_singleton.1 hu
  have h6 : u.id = id := Id.ext_ (by simpa using h0)
  rw [← h5, h6, cmpI_self] at h
  simp at h
theorem tkE_late {x : Su} {lim now : Int} {q : StM} {e : En} (h : hasI q.ss e.id = false) (ht : now + x.ah < e.t) : tkE x lim q now e = 15 := by
  unfold tkE
  rw [if_neg (by rw [h]; decide), if_pos ht]
theorem tkE_same {x : Su} {lim now : Int} {q : StM} {e : En} (h : hasI q.ss e.id = true) (ht : (gotI q.ss e.id).t = e.t) : tkE x lim q now e = 0 := by
  unfold tkE
  rw [if_pos h, if_neg (fun h => h ht)]
theorem tkE_other {x : Su} {lim now : Int} {q : StM} {e : En} (h : hasI q.ss e.id = true) (ht : (gotI q.ss e.id).t ≠ e.t) : tkE x lim q now e = 14 := by
  unfold tkE
  rw [if_pos h, if_pos ht]
/-- A small setup's numbers. -/
theorem S23.nums (z : S23) : 0 ≤ z.su.r.w ∧ 20 < z.su.r.mx ∧ 20 ≤ z.su.lim ∧ z.su.lim ≤ 119 ∧ 0 ≤ z.su.ah ∧ z.su.ah < 20 := by
  have h1 := z.ha
  have h2 := z.hb
  have h3 := z.hc
  have h4 := z.hl
  have h5 := z.hh
  show 0 ≤ 1 + z.a % 12 ∧ 20 < 1 + z.b % 4 + z.c % 6 + 20 ∧ 20 ≤ 20 + z.l % 100 ∧ 20 + z.l % 100 ≤ 119 ∧ 0 ≤ z.h % 20 ∧ z.h % 20 < 20
  omega
theorem nth_Ih {φ : Prop} (h : φ := by (first | rfl | first | exact meT_21 | rfl | exact Su.n28 _ | exact Su.n27 _ | exact mcs_5 | exact mcs_4 | exact Me.ne _)) : φ := h
theorem mid_Ih {φ : Prop} (h : φ := by (first | first | exact Su.mt _ | exact Su.mr _ | exact Mid.all | exact Mid.all | exact Mid.head)) : φ := h
theorem sz_Ih {φ : Prop} (h : φ := by (first | rfl | ((try simp only [Su.len, S23.len, En.len, Me.len, moC_len, enC_len, bytes_length, Id.len]); (first | done | rfl); first | done | fail))) : φ := h
theorem one_Ih {φ : Prop} (h : φ := by (first | assumption | exact first | exact Su.one _ | exact S23.one _ | exact En.one _ | exact Me.one _ | exact mcs_one | exact enC_one | exact one_bytes _ | (simp only [List.mem_cons, List.not_mem_nil, or_false, forall_eq_or_imp, forall_eq]; decide) | exact one_bytes _ | (intro v hv; (repeat (rcases List.mem_cons.1 hv with rfl | hv; rfl)); cases hv))) : φ := h
theorem set_Ih {φ : Prop} (h : φ := by (first | (first | exact meT_set) | ((repeat (first | exact SetAt.here | apply SetAt.there)); first | done | fail))) : φ := h
theorem cl_Ih {φ : Prop} (h : φ := by first | rfl | exact .t | exact .f | exact .t (by omega) | exact .f (by omega) | exact .u | exact .i (by (first | exact .t (by omega) | exact .f (by omega) | exact .u | exact .i (by omega) | exact .v (by omega) | exact .b (by omega) | exact .w | rfl | omega)) | exact .v (by omega) | exact .b (by omega) | exact .q (by omega) | exact .w | exact .b (by exact at_) rfl (by exact nth_Ih) | exact .w (by exact at_) rfl rfl (by exact sz_Ih) | exact .s (by exact at_) (by exact mid_Ih) rfl rfl (by exact sz_Ih) | exact .z rfl rfl ⟨by kernel_rfl⟩ | exact .b rfl rfl ⟨by kernel_rfl⟩ | exact .a rfl rfl ⟨by kernel_rfl⟩ | exact .o rfl | exact .s | exact .n | exact .p rfl | exact .q rfl | exact .c rfl | exact .d rfl | exact .n rfl rfl (by omega) | exact .a rfl rfl (by omega) | exact .p rfl rfl (by omega) (by omega) | exact .y rfl rfl (by omega) (by omega) | exact .o (by exact at_) (by omega) rfl (by exact nth_Ih) | exact .m (by exact at_) (by omega) (by exact mid_Ih) rfl rfl (by exact sz_Ih) | exact .mlen (by exact at_) rfl | exact .t (by exact at_) rfl rfl (by first | exact True.intro | rfl) (by assumption) | exact .f (by exact at_) rfl rfl (by first | exact True.intro | rfl) (by assumption) rfl | exact .t1 (by exact at_) rfl rfl (by first | exact True.intro | rfl) (by assumption) | exact .f1 (by exact at_) rfl rfl (by first | exact True.intro | rfl) (by assumption) rfl | exact .tk (by exact at_) rfl (by assumption) (by assumption) | exact .fk (by exact at_) rfl (by assumption) (by assumption) rfl | exact .tk1 (by exact at_) rfl (by assumption) (by assumption) | exact .fk1 (by exact at_) rfl (by assumption) (by assumption) rfl | exact .r rfl rfl (by omega) (by omega) (by exact nth_Ih) rfl | exact .s rfl (by omega) (by assumption) | exact at_ | assumption | exact .r rfl rfl | exact .h rfl rfl rfl (by omega) | exact .l rfl rfl rfl (by omega) (by omega) | exact .g rfl rfl rfl rfl (by omega) (by omega) | exact .h rfl rfl (toN_ (by omega)) (by omega) | exact .l rfl rfl (toN_ (by omega)) (by omega) (by omega) | exact .g rfl rfl (toN_ (by omega)) (toN_ (by omega)) (by omega) (by omega) | exact .o (by decide) | exact .f (by decide) | exact .n (by omega) (by first | decide | (show _ ≤ ((64 : Nat) : Int); omega)) | (constructor; (repeat (first | exact .t (by omega) | exact .f (by omega) | exact .u | exact .i (by omega) | exact .v (by omega) | exact .b (by omega) | exact .w | rfl | omega)); first | done | fail) | omega | (show _ ≤ ((64 : Nat) : Int); omega)) : φ := h
theorem pv_Ih {φ : Prop} (h : φ := by constructor; (repeat exact cl_Ih); first | done | fail) : φ := h
theorem su_Ih {φ ψ : Prop} (k : ψ) (h : Hide ψ → φ := by (intro k; (first | refine sl_pu (PuI.sep (by exact pv_Ih)) rfl ?_ | refine sl_yes rfl rfl ?_ | refine sl_no rfl rfl rfl ?_ | refine sl_off rfl rfl rfl ?_ | (fail)); exact k.out)) : φ := h ⟨k⟩
theorem sto_Ih {φ ψ : Prop} (k : ψ) (h : Hide ψ → φ := by (intro k; (first | refine sl_store rfl (by exact pick_) rfl rfl (by kernel_rfl) (by exact set_Ih) ?_ | refine sl_store_whole rfl (by exact pick_) rfl (by exact sz_Ih) (by exact sz_Ih) (by exact one_Ih) ?_); exact k.out)) : φ := h ⟨k⟩
theorem go_Ih {φ ψ : Prop} (k : ψ) (h : Hide ψ → φ := by (intro k; (repeat (first | refine su_Ih ?_ | refine so_ ?_ | refine sto_Ih ?_)); exact k.out)) : φ := h ⟨k⟩
set_option maxRecDepth 100000 in
set_option maxHeartbeats 16000000 in
theorem htakes_walk {K : List Fa} {z : S23} {id : Id} {time now kind : Int} (ht : 0 ≤ time ∧ time ≤ 18446744073709551615) (hw : 0 ≤ now ∧ now ≤ 18446744073709551615) (hk : 0 ≤ kind ∧ kind ≤ 255) :
    Fn Tryz.prog 4 #[.agg z.cells.toArray, id.v, .int .u64 time, .int .u64 now, .int .u8 kind] K (Ret (fun _ : Unit => True) (fun _ => .bool true) (fun _ => K)) := by
  refine fn_enter Tryz.func4 rfl _ Tryz.ntmps4 (by simp) [(0, .agg z.cells.toArray), (1, id.v), (2, .int .u64 time), (3, .int .u64 now), (4, .int .u8 kind)] (args_of (by simp)) ?_
  refine go_Ih ?_
  refine sl_box rfl rfl rfl ?_; intro g5
  refine sl_box rfl rfl rfl ?_; intro g6
  refine go_Ih ?_
  refine sl_call rfl rfl (by kernel_rfl) rfl (by exact sub_) awake23 ?_; rintro _ -
  refine go_Ih ?_
  refine sl_call rfl rfl (by kernel_rfl) rfl (by exact sub_) (hsetup_ok z) ?_; rintro _ -
  have hnum := z.nums
  have hzr := z.rules
  generalize z.su = x at hnum hzr ⊢
  obtain ⟨n1, n2, n3, n4, n5, n6⟩ := hnum
  refine go_Ih ?_
  refine sl_alloc rfl rfl rfl ?_; intro g11
  refine go_Ih ?_
  refine sc_join (α := OpR × Nat × Nat) (fun y => [(2, .int .u64 time), (3, .int .u64 now), (4, .int .u8 kind), (6, .pointer (some ⟨g6, 0, none⟩)), (11, .pointer (some ⟨g11, 0, none⟩)), (12, .pointer (some ⟨y.1.g, 0, none⟩)), (13, .int .i64 0)]) (fun y => blk g6 56 (bytes id.l) :: blk g11 34 x.c :: sF y.1.g x.t x.r (min (max x.lim 0) 256) y.1.q (jC y.1.q.gj y.2.1 sj (cellsA [5 :: rcLife 1]) :: dB y.2.1 y.2.2 100000 :: dM y.2.2 [y.1.f] y.1.ck :: dS [y.1.f] :: K))
    (fun y => ∃ p, iN0 p y.1.g 0 { y.1.q with life := 0 } ∧ y.1.q.life = 1 ∧ JFl [5 :: rcLife 1] 64 y.1.f) ?_ ?_
  · refine sd_drawn (fun W => AllP W [blk g11 34 x.c]) (fun _ => true) (by kernel_rfl) 13 rfl ?_
    refine sd_yes2 1 rfl (by exact gd_) (by kernel_rfl) (by kernel_rfl) (by exact nop_) (PuI.all (by exact pv_Ih)) rfl (fun w hw => all_ hw) ?_
    refine sd_yes2 2 rfl (by exact gd_) (by kernel_rfl) (by kernel_rfl) (by exact nop_) (PuI.all (by exact pv_Ih)) rfl (fun w hw => all_ hw) ?_
    refine sd_yes2 3 rfl (by exact gd_) (by kernel_rfl) (by kernel_rfl) (by exact nop_) (PuI.all (by exact pv_Ih)) rfl (fun w hw => all_ hw) ?_
    refine sd_yes2 4 rfl (by exact gd_) (by kernel_rfl) (by kernel_rfl) (by exact nop_) (PuI.all (by exact pv_Ih)) rfl (fun w hw => all_ hw) ?_
    refine sd_yes2 5 rfl (by exact gd_) (by kernel_rfl) (by kernel_rfl) (by exact nop_) (PuI.all (by exact pv_Ih)) rfl (fun w hw => all_ hw) ?_
    refine sd_yes2 6 rfl (by exact gd_) (by kernel_rfl) (by kernel_rfl) (by exact nop_) (PuI.all (by exact pv_Ih)) rfl (fun w hw => all_ hw) ?_
    refine sd_one 0 (by kernel_rfl) (sa_sl 0 rfl ?_)
    refine sl_call rfl rfl (by kernel_rfl) rfl (by exact sub_) newD_ok ?_
    rintro ⟨gd, md⟩ -
    dsimp only
    rw [show limL 100000 = 100000 by rfl]
    refine sl_nil ?_
    refine se_sd (fun _ w hw => all_ hw) ?_
    refine sd_one 7 (by kernel_rfl) (sa_sl 7 rfl ?_)
    refine sl_call rfl rfl (by kernel_rfl) rfl (by exact sub_) (hop0 (K0 := blk g11 34 x.c :: blk g6 56 (bytes id.l) :: K) (gd := gd) (md := md) (t := x.t) (r := x.r) (lim := x.lim) (limd := 100000) hzr (by decide)) ?_
    rintro o ho
    refine sl_nil ?_
    refine se_sd (fun _ w hw => all_ hw) ?_
    refine sd_yes2 8 rfl (by exact gd_) (by kernel_rfl) (by kernel_rfl) (by exact nop_) (PuI.all (by exact pv_Ih)) rfl (fun w hw => all_ hw) ?_
    refine sd_yes2 9 rfl (by exact gd_) (by kernel_rfl) (by kernel_rfl) (by exact nop_) (PuI.all (by exact pv_Ih)) rfl (fun w hw => all_ hw) ?_
    refine sd_yes2 10 rfl (by exact gd_) (by kernel_rfl) (by kernel_rfl) (by exact nop_) (PuI.all (by exact pv_Ih)) rfl (fun w hw => all_ hw) ?_
    refine sd_yes2 11 rfl (by exact gd_) (by kernel_rfl) (by kernel_rfl) (by exact nop_) (PuI.all (by exact pv_Ih)) rfl (fun w hw => all_ hw) ?_
    refine sd_yes2 12 rfl (by exact gd_) (by kernel_rfl) (by kernel_rfl) (by exact nop_) (PuI.all (by exact pv_Ih)) rfl (fun w hw => all_ hw) ?_
    refine sd_done (by kernel_rfl) ?_
    exact se_mid (o, gd, md) (by exact has_) (by exact sub_) ho
  rintro ⟨⟨g, q, f, ck⟩, gd, md⟩ ⟨p, ⟨i1, i2, i3, i4, i5, i6⟩, hl, hF⟩
  dsimp only at i1 i2 i3 i4 i5 i6 hl hF ⊢
  have hlim : min (max x.lim 0) 256 = x.lim := by omega
  rw [hlim]
  clear hlim
  obtain ⟨t, hte⟩ : ∃ t, t = time % 100 := ⟨_, rfl⟩
  obtain ⟨nw, hne⟩ : ∃ t, t = now % 100 := ⟨_, rfl⟩
  have t1 : 0 ≤ t ∧ t < 100 := by omega
  have w1 : 0 ≤ nw ∧ nw < 100 := by omega
  have hsq : Srt q.ss := by rw [i2]; exact srt_nil
  have hnq : q.ss.length ≤ 1000000 := by rw [i2]; decide
  have hnoq : ∀ id, hasI q.ss id = false → wfind q.ws id = none := fun id _ => by rw [i4]; rfl
  have tb : 0 ≤ t ∧ t ≤ 18446744073709551615 := by omega
  have tb1 : 0 ≤ t + 1 ∧ t + 1 ≤ 18446744073709551615 := by omega
  have kb : 0 ≤ 2 + kind % 6 ∧ 2 + kind % 6 ≤ 255 := by omega
  have kn : 2 + kind % 6 ≠ 1 := by omega
  refine go_Ih ?_
  rw [← hte, ← hne]
  clear hte hne
  refine sl_pu (pu_build (v := .agg (enT id t tb).cells.toArray) rfl (fun W => build_enT W)) rfl ?_
  refine sl_build (size := 20) (e := 62) (cells := (enT id t tb).cells) rfl (fun W => build_en (En.len _) W) (by rw [En.len]) (by decide) rfl ?_
  intro ge
  refine sl_pu (pu_build (v := (meT 1 kb1 ge (enT id t tb)).v) rfl (fun W => by kernel_rfl)) rfl ?_
  refine sl_alloc rfl rfl rfl ?_; intro g14
  refine go_Ih ?_
  by_cases hlate : nw + x.ah < t
  · have hnt : ¬ tkN x x.lim q nw (enT id t tb) := fun h => h.2.1 hlate
    have htk : tkE x x.lim q nw (enT id t tb) = 15 := tkE_late (by rw [i2]; rfl) hlate
    have htn : tkN x x.lim q 200 (enT id (t + 1) tb1) := tkN_new i2 i3 (by show ¬ 200 + x.ah < t + 1; omega) ⟨rfl, rfl⟩ (by omega) (by show t + 1 ≤ 1099511627776; omega) (by omega)
    refine sl_call rfl rfl (by kernel_rfl) rfl (by exact sub_) (take_same (code := 15) (K := own 62 20 (some ⟨ge, 0, none⟩) 1 1 (enT id t tb).cells :: blk g14 65 (meT 1 kb1 ge (enT id t tb)).cells :: blk g6 56 (bytes id.l) :: blk g11 34 x.c :: K) (g := g) (gd := gd) (md := md) (ckd := ck) (limd := 100000) (ls := [5 :: rcLife 1]) (f := f) (m := meT 1 kb1 ge (enT id t tb)) (e := enT id t tb) (lim := x.lim) (now := nw) (q := q) n1 (by omega) hsq hnq hnoq rfl rfl (meT_v ⟨rfl, rfl, rfl, rfl⟩ (by exact at_)) (by omega) hnt htk) ?_; rintro ga -
    refine go_Ih ?_
    refine sl_alloc rfl rfl rfl ?_; intro g15
    refine go_Ih ?_
    refine sl_call rfl rfl (by kernel_rfl) rfl (by exact sub_) (take_same (code := 15) (K := own 62 20 (some ⟨ge, 0, none⟩) 1 1 (enT id t tb).cells :: own 62 20 (some ⟨ga, 0, none⟩) 1 1 (enC id (t) 15) :: blk g15 65 (moC 7 0 (some ⟨ga, 0, none⟩) 1 1) :: blk g14 65 (meT 1 kb1 ge (enT id t tb)).cells :: blk g6 56 (bytes id.l) :: blk g11 34 x.c :: K) (g := g) (gd := gd) (md := md) (ckd := ck) (limd := 100000) (ls := [5 :: rcLife 1]) (f := f) (m := meT 1 kb1 ge (enT id t tb)) (e := enT id t tb) (lim := x.lim) (now := nw) (q := q) n1 (by omega) hsq hnq hnoq rfl rfl (meT_v ⟨rfl, rfl, rfl, rfl⟩ (by exact at_)) (by omega) hnt htk) ?_; rintro gb -
    refine go_Ih ?_
    refine sl_alloc rfl rfl rfl ?_; intro g18
    refine go_Ih ?_
    refine go_Ih ?_
    rw [show Value.slice (meT 1 kb1 ge (enT id t tb)).A (meT 1 kb1 ge (enT id t tb)).es.length (meT 1 kb1 ge (enT id t tb)).c = .slice (some ⟨ge, 0, none⟩) 1 1 from rfl]
    refine go_Ih ?_
    refine sl_sto (e := 62) (g := ge) (i := 16) (size := 20) (k := 1) (c := 1) (xs := (enT id t tb).cells) rfl (by exact pick_) rfl rfl (by kernel_rfl) (by decide) ?_
    rw [enT_set (h' := tb1)]
    refine go_Ih ?_
    refine sl_call rfl rfl (by kernel_rfl) rfl (by exact sub_) (take_new (K := own 62 20 (some ⟨ge, 0, none⟩) 1 1 (enT id (t + 1) tb1).cells :: own 62 20 (some ⟨ga, 0, none⟩) 1 1 (enC id (t) 15) :: blk g15 65 (moC 7 0 (some ⟨ga, 0, none⟩) 1 1) :: own 62 20 (some ⟨gb, 0, none⟩) 1 1 (enC id (t) 15) :: blk g18 65 (moC 7 0 (some ⟨gb, 0, none⟩) 1 1) :: blk g14 65 (meT 1 kb1 ge (enT id (t + 1) tb1)).cells :: blk g6 56 (bytes id.l) :: blk g11 34 x.c :: K) (g := g) (gd := gd) (md := md) (ckd := ck) (f := f) (m := meT 1 kb1 ge (enT id (t + 1) tb1)) (e := enT id (t + 1) tb1) (lim := x.lim) (now := 200) (q := q) n1 (by omega) hsq hnq hnoq rfl rfl (meT_v ⟨rfl, rfl, rfl, rfl⟩ (by exact at_)) (by omega) htn hF ⟨rfl, rfl⟩) ?_; rintro ⟨gc, z⟩ hz
    dsimp only at hz ⊢
    refine go_Ih ?_
    refine sl_alloc rfl rfl rfl ?_; intro g20
    refine go_Ih ?_
    refine sl_call rfl rfl (by kernel_rfl) rfl (by exact sub_) (htake_kind (m := meT (2 + kind % 6) kb ge (enT id (t + 1) tb1)) kn) ?_; rintro _ -
    refine go_Ih ?_
    refine sl_alloc rfl rfl rfl ?_; intro g23
    refine go_Ih ?_
    refine sl_call rfl rfl (by kernel_rfl) rfl (by exact sub_) (htake_nil (m := meT (2 + kind % 6) kb ge (enT id (t + 1) tb1))) ?_; rintro _ -
    refine go_Ih ?_
    refine sl_alloc rfl rfl rfl ?_; intro g25
    refine go_Ih ?_
    refine sl_pu (pu_ldr (i := 19) (Vw.of_own (e := 62) (A := some ⟨ga, 0, none⟩) (c := 1) (by exact at_)) (by decide) rfl rfl enC_19) rfl ?_
    refine go_Ih ?_
    refine sl_pu (pu_ldr (i := 19) (Vw.of_own (e := 62) (A := some ⟨gb, 0, none⟩) (c := 1) (by exact at_)) (by decide) rfl rfl enC_19) rfl ?_
    refine go_Ih ?_
    refine sl_pu (pu_ldr (i := 19) (Vw.of_own (e := 62) (A := some ⟨gc, 0, none⟩) (c := 1) (by exact at_)) (by decide) rfl rfl enC_19) rfl ?_
    refine go_Ih ?_
    exact se_ret1 () trivial rfl rfl (by exact sub_)
  · have htn : tkN x x.lim q nw (enT id t tb) := tkN_new i2 i3 hlate ⟨rfl, rfl⟩ (by omega) (by show t ≤ 1099511627776; omega) (by omega)
    refine sl_call rfl rfl (by kernel_rfl) rfl (by exact sub_) (take_new (K := own 62 20 (some ⟨ge, 0, none⟩) 1 1 (enT id t tb).cells :: blk g14 65 (meT 1 kb1 ge (enT id t tb)).cells :: blk g6 56 (bytes id.l) :: blk g11 34 x.c :: K) (g := g) (gd := gd) (md := md) (ckd := ck) (f := f) (m := meT 1 kb1 ge (enT id t tb)) (e := enT id t tb) (lim := x.lim) (now := nw) (q := q) n1 (by omega) hsq hnq hnoq rfl rfl (meT_v ⟨rfl, rfl, rfl, rfl⟩ (by exact at_)) (by omega) htn hF ⟨rfl, rfl⟩) ?_; rintro ⟨ga, z⟩ hz
    dsimp only at hz ⊢
    obtain ⟨A1, c1, pA, pc, sA, sc, hz⟩ := hz
    obtain ⟨z1, f1, ck1⟩ := z
    dsimp only at hz ⊢
    obtain ⟨a1, a2⟩ := acc1 (lim := x.lim) (q := q) (s := ⟨id, t, 30, tb, by decide⟩) (A := A1) (c := c1) (w := ⟨id, t, pA, pc, (enT id t tb).pub, sA, sc, (enT id t tb).sh, q.cw⟩) i2 i4 (by show t ≤ 1099511627776; omega) (by omega) rfl
    have a3 : z1.ss = [⟨id, t, 30, tb, by decide⟩] := by rw [hz]; exact a1
    have a4 : ∀ i, hasI z1.ss i = false → wfind z1.ws i = none := by rw [hz]; exact a2
    clear hz a1 a2
    have b1 : Srt z1.ss := by rw [a3]; exact srt_one _
    have b2 : z1.ss.length ≤ 1000000 := by rw [a3]; simp
    have b3 : hasI z1.ss id = true := by rw [a3]; exact has1_self (s := ⟨id, t, 30, tb, by decide⟩)
    have b4 : (gotI z1.ss id).t = t := by rw [a3]; exact congrArg Seen.t (got1 (s := ⟨id, t, 30, tb, by decide⟩))
    have hnt : ¬ tkN x x.lim z1 nw (enT id t tb) := fun h => by have := h.1; rw [show (enT id t tb).id = id from rfl, b3] at this; cases this
    have htk : tkE x x.lim z1 nw (enT id t tb) = 0 := tkE_same b3 b4
    have hnt2 : ¬ tkN x x.lim z1 200 (enT id (t + 1) tb1) := fun h => by have := h.1; rw [show (enT id (t + 1) tb1).id = id from rfl, b3] at this; cases this
    have htk2 : tkE x x.lim z1 200 (enT id (t + 1) tb1) = 14 := tkE_other b3 (by show (gotI z1.ss id).t ≠ t + 1; omega)
    refine go_Ih ?_
    refine sl_alloc rfl rfl rfl ?_; intro g15
    refine go_Ih ?_
    refine sl_call rfl rfl (by kernel_rfl) rfl (by exact sub_) (take_same (code := 0) (K := own 62 20 (some ⟨ge, 0, none⟩) 1 1 (enT id t tb).cells :: own 62 20 (some ⟨ga, 0, none⟩) 1 1 (enC id (t) 0) :: blk g15 65 (moC 7 0 (some ⟨ga, 0, none⟩) 1 1) :: blk g14 65 (meT 1 kb1 ge (enT id t tb)).cells :: blk g6 56 (bytes id.l) :: blk g11 34 x.c :: K) (g := g) (gd := gd) (md := md) (ckd := ck1) (limd := 100000) (ls := ([5 :: rcLife 1] ++ [1 :: rcAcc id t [] []])) (f := f1) (m := meT 1 kb1 ge (enT id t tb)) (e := enT id t tb) (lim := x.lim) (now := nw) (q := z1) n1 (by omega) b1 b2 a4 rfl rfl (meT_v ⟨rfl, rfl, rfl, rfl⟩ (by exact at_)) (by omega) hnt htk) ?_; rintro gb -
    refine go_Ih ?_
    refine sl_alloc rfl rfl rfl ?_; intro g18
    refine go_Ih ?_
    refine go_Ih ?_
    rw [show Value.slice (meT 1 kb1 ge (enT id t tb)).A (meT 1 kb1 ge (enT id t tb)).es.length (meT 1 kb1 ge (enT id t tb)).c = .slice (some ⟨ge, 0, none⟩) 1 1 from rfl]
    refine go_Ih ?_
    refine sl_sto (e := 62) (g := ge) (i := 16) (size := 20) (k := 1) (c := 1) (xs := (enT id t tb).cells) rfl (by exact pick_) rfl rfl (by kernel_rfl) (by decide) ?_
    rw [enT_set (h' := tb1)]
    refine go_Ih ?_
    refine sl_call rfl rfl (by kernel_rfl) rfl (by exact sub_) (take_same (code := 14) (K := own 62 20 (some ⟨ge, 0, none⟩) 1 1 (enT id (t + 1) tb1).cells :: own 62 20 (some ⟨ga, 0, none⟩) 1 1 (enC id (t) 0) :: blk g15 65 (moC 7 0 (some ⟨ga, 0, none⟩) 1 1) :: own 62 20 (some ⟨gb, 0, none⟩) 1 1 (enC id (t) 0) :: blk g18 65 (moC 7 0 (some ⟨gb, 0, none⟩) 1 1) :: blk g14 65 (meT 1 kb1 ge (enT id (t + 1) tb1)).cells :: blk g6 56 (bytes id.l) :: blk g11 34 x.c :: K) (g := g) (gd := gd) (md := md) (ckd := ck1) (limd := 100000) (ls := ([5 :: rcLife 1] ++ [1 :: rcAcc id t [] []])) (f := f1) (m := meT 1 kb1 ge (enT id (t + 1) tb1)) (e := enT id (t + 1) tb1) (lim := x.lim) (now := 200) (q := z1) n1 (by omega) b1 b2 a4 rfl rfl (meT_v ⟨rfl, rfl, rfl, rfl⟩ (by exact at_)) (by omega) hnt2 htk2) ?_; rintro gc -
    refine go_Ih ?_
    refine sl_alloc rfl rfl rfl ?_; intro g20
    refine go_Ih ?_
    refine sl_call rfl rfl (by kernel_rfl) rfl (by exact sub_) (htake_kind (m := meT (2 + kind % 6) kb ge (enT id (t + 1) tb1)) kn) ?_; rintro _ -
    refine go_Ih ?_
    refine sl_alloc rfl rfl rfl ?_; intro g23
    refine go_Ih ?_
    refine sl_call rfl rfl (by kernel_rfl) rfl (by exact sub_) (htake_nil (m := meT (2 + kind % 6) kb ge (enT id (t + 1) tb1))) ?_; rintro _ -
    refine go_Ih ?_
    refine sl_alloc rfl rfl rfl ?_; intro g25
    refine go_Ih ?_
    refine sl_pu (pu_ldr (i := 19) (Vw.of_own (e := 62) (A := some ⟨ga, 0, none⟩) (c := 1) (by exact at_)) (by decide) rfl rfl enC_19) rfl ?_
    refine go_Ih ?_
    refine sl_pu (pu_ldr (i := 19) (Vw.of_own (e := 62) (A := some ⟨gb, 0, none⟩) (c := 1) (by exact at_)) (by decide) rfl rfl enC_19) rfl ?_
    refine go_Ih ?_
    refine sl_pu (pu_ldr (i := 19) (Vw.of_own (e := 62) (A := some ⟨gc, 0, none⟩) (c := 1) (by exact at_)) (by decide) rfl rfl enC_19) rfl ?_
    refine go_Ih ?_
    exact se_ret1 () trivial rfl rfl (by exact sub_)
end Go.Proofs.YtocaabnbmcpjmaaGreatDoor
/- HelperTakes: what comes in. -/
namespace Go.Proofs.YtocaabnbmcpjmaaGreatDoor
open Go.RowKit Go.ChangeShapes Go.WideShapes Go.Deep
section
variable {H : Type} {enc : TypeId × Value → H} {w : World} {base : Nat} {spare : Nat → Bool} {held : Bool} {fuel : Nat} {cs : List Value} {x : DataW H × List MemPlace}
def IdHV (_ : World) (v : Value) : Prop := ∃ a : Id, v = a.v
theorem open_idh {v : Value} (h : DataW.trod enc Tryz.prog w base spare held fuel 56 v.cells.toList = some x) (hv : ∃ cs, v = .agg cs) : IdHV w v := by
  obtain ⟨cs, rfl⟩ := hv
  obtain ⟨a, ha⟩ := open_id h
  refine ⟨a, ?_⟩
  have h1 : cs.toList = bytes a.l := ha
  show Value.agg cs = Value.agg (bytes a.l).toArray
  rw [← h1]
end
theorem takes_v (v0 v1 : Value) (a2 a3 a4 : Int) (W : World) (o0 : S23V W v0) (o1 : IdHV W v1) (h2 : 0 ≤ a2 ∧ a2 ≤ 18446744073709551615) (h3 : 0 ≤ a3 ∧ a3 ≤ 18446744073709551615) (h4 : 0 ≤ a4 ∧ a4 ≤ 255) :
    Calls Tryz.prog 4 #[v0, v1, .int .u64 a2, .int .u64 a3, .int .u8 a4] W fun e W' => e = .returned (.bool true) ∧ Fr Nil W W' := by
  obtain ⟨z, rfl⟩ := o0
  obtain ⟨i, rfl⟩ := o1
  exact (htakes_walk h2 h3 h4).top
end Go.Proofs.YtocaabnbmcpjmaaGreatDoor
/- The library's variables, as the rows of this seat list them: a world that holds them. -/
namespace Go.Proofs.YtocaabnbmcpjmaaGreatDoor
def tab32 : Array Value := #[.int .u8 0, .int .u8 1, .int .u8 28, .int .u8 2, .int .u8 29, .int .u8 14, .int .u8 24, .int .u8 3, .int .u8 30, .int .u8 22, .int .u8 20, .int .u8 15, .int .u8 25, .int .u8 17, .int .u8 4, .int .u8 8, .int .u8 31, .int .u8 27, .int .u8 13, .int .u8 23, .int .u8 21, .int .u8 19, .int .u8 16, .int .u8 7, .int .u8 26, .int .u8 12, .int .u8 18, .int .u8 6, .int .u8 11, .int .u8 5, .int .u8 10, .int .u8 9]
def tab64 : Array Value := #[.int .u8 0, .int .u8 1, .int .u8 56, .int .u8 2, .int .u8 57, .int .u8 49, .int .u8 28, .int .u8 3, .int .u8 61, .int .u8 58, .int .u8 42, .int .u8 50, .int .u8 38, .int .u8 29, .int .u8 17, .int .u8 4, .int .u8 62, .int .u8 47, .int .u8 59, .int .u8 36, .int .u8 45, .int .u8 43, .int .u8 51, .int .u8 22, .int .u8 53, .int .u8 39, .int .u8 33, .int .u8 30, .int .u8 24, .int .u8 18, .int .u8 12, .int .u8 5, .int .u8 63, .int .u8 55, .int .u8 48, .int .u8 27, .int .u8 60, .int .u8 41, .int .u8 37, .int .u8 16, .int .u8 46, .int .u8 35, .int .u8 44, .int .u8 21, .int .u8 52, .int .u8 32, .int .u8 23, .int .u8 11, .int .u8 54, .int .u8 26, .int .u8 40, .int .u8 15, .int .u8 34, .int .u8 20, .int .u8 31, .int .u8 10, .int .u8 25, .int .u8 14, .int .u8 19, .int .u8 9, .int .u8 13, .int .u8 8, .int .u8 7, .int .u8 6]
/-- A world for the witness: the variables holding what their initialisers lay. -/
noncomputable def laidWorld (os : Os) : World :=
  let w0 := World.holding Tryz.prog os ⟨#[], #[], []⟩
  let put (h : Array Obj) (g : Nat) (cs : Array Value) : Array Obj := h.modify g fun
    | .cells _ t frozen => .cells cs t frozen
    | o => o
  { w0 with heap := put (put w0.heap 1 tab32) 2 tab64 }
theorem laid_met (os : Os) (args : Array Value) : laidMet Tryz.prog Rows.helperSetupsRow.laid ((laidWorld os).forCall (fun _ _ => 0) ⟨#[], args, []⟩).memory :=
  laidMet_of_run3 10 (by kernel_rfl) (by kernel_rfl) (by kernel_rfl)
end Go.Proofs.YtocaabnbmcpjmaaGreatDoor
