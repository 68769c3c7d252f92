/- Several texts of one claim, one behind the other (Ib, Ic, Id, Ie, If, Ig, Ij). -/
import Derived.Test.YtocaabnbmcpjmaaGreatDoorB16
import Derived.Test.YtocaabnbmcpjmaaGreatDoorB17
import Derived.Test.YtocaabnbmcpjmaaGreatDoorB15
set_option linter.unusedVariables false
set_option linter.unusedSimpArgs false
/- Package helper: Take. -/
namespace Go.Proofs.YtocaabnbmcpjmaaGreatDoor
open Go.RowKit Go.MapKept
attribute [local irreducible] Go.Calls Go.Exit.then Go.Exit.inBlock Go.bodyPost Go.Code.wp Go.wpList takeL recordL hashL recL allL
/-- An entry that says a code alone. -/
def enC (id : Id) (t code : Int) : List Value := bytes id.l ++ [.int .u64 t, .slice none 0 0, .slice none 0 0, .int .i64 code]
theorem enC_len {id : Id} {t code : Int} : (enC id t code).length = 20 := by simp [enC, bytes, id.len]
theorem enC_one {id : Id} {t code : Int} : ∀ v ∈ enC id t code, v.oneCell' = true := by
  intro v hv
  rcases List.mem_append.1 hv with h | h
  · exact one_bytes _ v h
  · simp only [List.mem_cons, List.not_mem_nil, or_false] at h
    rcases h with rfl | rfl | rfl | rfl <;> rfl
theorem enC_16 {id : Id} {t code : Int} : nth (enC id t code) 16 = some (.int .u64 t) := by
  rw [nth_eq, enC, List.getElem?_append_right (by simp [bytes, id.len])]
  simp [bytes, id.len]
theorem enC_19 {id : Id} {t code : Int} : nth (enC id t code) 19 = some (.int .i64 code) := by
  rw [nth_eq, enC, List.getElem?_append_right (by simp [bytes, id.len])]
  simp [bytes, id.len]
theorem enC_mid {id : Id} {t code : Int} : Mid (enC id t code) 0 (bytes id.l) := Mid.head
/-- A message of one row of entries. -/
abbrev moC (kind job : Int) (A : Option Addr) (n c : Nat) : List Value := mcs kind job 0 0 zId.l 0 A n c
theorem moC_len {kind job : Int} {A : Option Addr} {n c : Nat} : (moC kind job A n c).length = 22 := mcs_len zId.len
theorem seen_n16 {s : Seen} : nth s.cells 16 = some (.int .u64 s.t) := by
  rw [nth_eq, Seen.cells, List.getElem?_append_right (by simp [bytes, s.id.len])]
  simp [bytes, s.id.len]
theorem seen_n17 {s : Seen} : nth s.cells 17 = some (.int .i64 s.c) := by
  rw [nth_eq, Seen.cells, List.getElem?_append_right (by simp [bytes, s.id.len])]
  simp [bytes, s.id.len]
end Go.Proofs.YtocaabnbmcpjmaaGreatDoor
/- Package helper: small setups; the fixed fact of the chapter. -/
namespace Go.Proofs.YtocaabnbmcpjmaaGreatDoor
open Go.RowKit Go.MapKept
attribute [local irreducible] Go.Calls Go.Exit.then Go.Exit.inBlock Go.bodyPost Go.Code.wp Go.wpList takeL recordL hashL recL allL
/-- A setup in small numbers. -/
structure S23 where
  s : Sk
  a : Int
  b : Int
  c : Int
  k : Int
  l : Int
  h : Int
  ha : 0 ≤ a ∧ a ≤ 255
  hb : 0 ≤ b ∧ b ≤ 255
  hc : 0 ≤ c ∧ c ≤ 255
  hk : 0 ≤ k ∧ k ≤ 255
  hl : 0 ≤ l ∧ l ≤ 255
  hh : 0 ≤ h ∧ h ≤ 255
def S23.cells (z : S23) : List Value := z.s.cells ++ (sm19C z.a z.b z.c ++ [.int .u8 z.k, .int .u8 z.l, .int .u8 z.h])
theorem S23.key_ok (z : S23) : IsBytes (z.k :: 9 :: List.replicate 14 0) := fun x hx => by
  have := z.hk
  rcases List.mem_cons.1 hx with e | e
  · omega
  · rcases List.mem_cons.1 e with e | e
    · omega
    · rw [List.eq_of_mem_replicate e]; omega
def S23.key (z : S23) : Id := ⟨z.k :: 9 :: List.replicate 14 0, rfl, z.key_ok⟩
def S23.su0 (z : S23) : Su := ⟨z.s.ta, smR z.a z.b z.c, z.key, 20 + z.l % 100, z.h % 20⟩
def S23.su (z : S23) : Su := ⟨z.s.ta, ⟨(smR z.a z.b z.c).w, (smR z.a z.b z.c).mn, (smR z.a z.b z.c).mx + 20⟩, z.key, 20 + z.l % 100, z.h % 20⟩
theorem S23.len (z : S23) : z.cells.length = 14 := rfl
theorem S23.one (z : S23) : ∀ v ∈ z.cells, v.oneCell' = true := by
  intro v hv
  simp only [S23.cells, Sk.cells, sCells, sm19C, List.cons_append, List.nil_append, List.mem_cons, List.not_mem_nil, or_false] at hv
  rcases hv with rfl | rfl | rfl | rfl | rfl | rfl | rfl | rfl | rfl | rfl | rfl | rfl | rfl | rfl <;> rfl
theorem S23.rules (z : S23) : rErr z.su.r z.su.t = 0 := by
  have h1 := z.ha
  have h2 := z.hb
  have h3 := z.hc
  unfold rErr
  rw [if_neg (by simp [S23.su, z.s.ta_ok])]
  show (if 1 + z.a % 12 < 1 ∨ 1099511627776 < 1 + z.a % 12 then (6 : Int) else if 1 + z.b % 4 < 1 ∨ 1 + z.b % 4 + z.c % 6 + 20 < 1 + z.b % 4 ∨ 256 < 1 + z.b % 4 + z.c % 6 + 20 then 6 else 0) = 0
  rw [if_neg (by omega), if_neg (by omega)]
theorem S23.ok (z : S23) : z.su.err = 0 := by
  have h1 := z.hl
  have h2 := z.hh
  unfold Su.err
  rw [if_neg (by simp [z.rules])]
  show (if 20 + z.l % 100 < 1 ∨ 256 < 20 + z.l % 100 ∨ 1099511627776 < z.h % 20 then (6 : Int) else 0) = 0
  rw [if_neg (by omega)]
theorem Su.n10 (x : Su) : nth x.c 10 = some (.int .i64 x.r.mx) := by
  have := x.mr 2 (.int .i64 x.r.mx) rfl
  rw [nth_eq]
  exact this
theorem Su.set10 (x : Su) (v : Int) : SetAt 10 (.int .i64 v) x.c (Su.c ⟨x.t, ⟨x.r.w, x.r.mn, v⟩, x.key, x.lim, x.ah⟩) := SetAt.tail (k := 8) (a := x.t.c) (i := 2) rfl (SetAt.there (SetAt.there SetAt.here))
theorem S23.m0 (z : S23) : Mid z.cells 0 z.s.cells := Mid.head
theorem S23.m8 (z : S23) : Mid z.cells 8 (sm19C z.a z.b z.c) := Mid.of_append (a := z.s.cells) rfl
def suZ : Su := ⟨⟨0, 0, 0, 0, 0, 0, 0, ⟨#[]⟩⟩, ⟨0, 0, 0⟩, zId, 0, 0⟩
theorem nth_Ic {φ : Prop} (h : φ := by (first | rfl | first | exact Su.n10 _ | rfl)) : φ := h
theorem mid_Ic {φ : Prop} (h : φ := by (first | first | exact S23.m0 _ | exact S23.m8 _ | exact Su.mt _ | exact Su.mr _ | exact Su.mkey _ | exact Mid.all | exact Mid.all | exact Mid.head)) : φ := h
theorem sz_Ic {φ : Prop} (h : φ := by (first | rfl | ((try simp only [Su.len]); (first | done | rfl); first | done | fail))) : φ := h
theorem one_Ic {φ : Prop} (h : φ := by (first | assumption | exact first | exact Su.one _ | exact S23.one _ | exact one_bytes _ | (simp only [List.mem_cons, List.not_mem_nil, or_false, forall_eq_or_imp, forall_eq]; decide) | exact one_bytes _ | (intro v hv; (repeat (rcases List.mem_cons.1 hv with rfl | hv; rfl)); cases hv))) : φ := h
theorem set_Ic {φ : Prop} (h : φ := by (first | (first | exact Su.set10 _ _) | ((repeat (first | exact SetAt.here | apply SetAt.there)); first | done | fail))) : φ := h
theorem cl_Ic {φ : Prop} (h : φ := by first | rfl | exact .t | exact .f | exact .t (by omega) | exact .f (by omega) | exact .u | exact .i (by (first | exact .t (by omega) | exact .f (by omega) | exact .u | exact .i (by omega) | exact .v (by omega) | exact .b (by omega) | exact .w | rfl | omega)) | exact .v (by omega) | exact .b (by omega) | exact .q (by omega) | exact .w | exact .b (by exact at_) rfl (by exact nth_Ic) | exact .w (by exact at_) rfl rfl (by exact sz_Ic) | exact .s (by exact at_) (by exact mid_Ic) rfl rfl (by exact sz_Ic) | exact .z rfl rfl ⟨by kernel_rfl⟩ | exact .b rfl rfl ⟨by kernel_rfl⟩ | exact .a rfl rfl ⟨by kernel_rfl⟩ | exact .o rfl | exact .s | exact .n | exact .p rfl | exact .q rfl | exact .c rfl | exact .d rfl | exact .n rfl rfl (by omega) | exact .a rfl rfl (by omega) | exact .p rfl rfl (by omega) (by omega) | exact .y rfl rfl (by omega) (by omega) | exact .o (by exact at_) (by omega) rfl (by exact nth_Ic) | exact .m (by exact at_) (by omega) (by exact mid_Ic) rfl rfl (by exact sz_Ic) | exact .mlen (by exact at_) rfl | exact .t (by exact at_) rfl rfl (by first | exact True.intro | rfl) (by assumption) | exact .f (by exact at_) rfl rfl (by first | exact True.intro | rfl) (by assumption) rfl | exact .t1 (by exact at_) rfl rfl (by first | exact True.intro | rfl) (by assumption) | exact .f1 (by exact at_) rfl rfl (by first | exact True.intro | rfl) (by assumption) rfl | exact .tk (by exact at_) rfl (by assumption) (by assumption) | exact .fk (by exact at_) rfl (by assumption) (by assumption) rfl | exact .tk1 (by exact at_) rfl (by assumption) (by assumption) | exact .fk1 (by exact at_) rfl (by assumption) (by assumption) rfl | exact .r rfl rfl (by omega) (by omega) (by exact nth_Ic) rfl | exact .s rfl (by omega) (by assumption) | exact at_ | assumption | exact .r rfl rfl | exact .h rfl rfl rfl (by omega) | exact .l rfl rfl rfl (by omega) (by omega) | exact .g rfl rfl rfl rfl (by omega) (by omega) | exact .h rfl rfl (toN_ (by omega)) (by omega) | exact .l rfl rfl (toN_ (by omega)) (by omega) (by omega) | exact .g rfl rfl (toN_ (by omega)) (toN_ (by omega)) (by omega) (by omega) | exact .o (by decide) | exact .f (by decide) | exact .n (by omega) (by first | decide | (show _ ≤ ((64 : Nat) : Int); omega)) | (constructor; (repeat (first | exact .t (by omega) | exact .f (by omega) | exact .u | exact .i (by omega) | exact .v (by omega) | exact .b (by omega) | exact .w | rfl | omega)); first | done | fail) | omega | (show _ ≤ ((64 : Nat) : Int); omega)) : φ := h
theorem pv_Ic {φ : Prop} (h : φ := by constructor; (repeat exact cl_Ic); first | done | fail) : φ := h
theorem su_Ic {φ ψ : Prop} (k : ψ) (h : Hide ψ → φ := by (intro k; (first | refine sl_pu (PuI.sep (by exact pv_Ic)) rfl ?_ | refine sl_yes rfl rfl ?_ | refine sl_no rfl rfl rfl ?_ | refine sl_off rfl rfl rfl ?_ | (fail)); exact k.out)) : φ := h ⟨k⟩
theorem sto_Ic {φ ψ : Prop} (k : ψ) (h : Hide ψ → φ := by (intro k; (first | refine sl_store rfl (by exact pick_) rfl rfl (by kernel_rfl) (by exact set_Ic) ?_ | refine sl_store_whole rfl (by exact pick_) rfl (by exact sz_Ic) (by exact sz_Ic) (by exact one_Ic) ?_); exact k.out)) : φ := h ⟨k⟩
theorem go_Ic {φ ψ : Prop} (k : ψ) (h : Hide ψ → φ := by (intro k; (repeat (first | refine su_Ic ?_ | refine so_ ?_ | refine sto_Ic ?_)); exact k.out)) : φ := h ⟨k⟩
set_option maxRecDepth 100000 in
set_option maxHeartbeats 4000000 in
theorem hsetup_ok {K : List Fa} (z : S23) :
    Fn Tryz.prog 11 #[.agg z.cells.toArray] K (Ret (fun _ : Unit => True) (fun _ => .agg z.su.c.toArray) (fun _ => K)) := by
  refine fn_enter Tryz.func11 rfl _ Tryz.ntmps11 (by simp) [(0, .agg z.cells.toArray)] (args_of (by simp)) ?_
  have h1 := z.hl
  have h2 := z.hh
  refine go_Ic ?_
  refine sl_box rfl rfl rfl ?_; intro g1
  refine go_Ic ?_
  refine sl_alloc rfl rfl rfl ?_; intro g2
  refine go_Ic ?_
  refine sc_join (α := Nat) (fun g3 => [(2, .pointer (some ⟨g2, 0, none⟩)), (3, .pointer (some ⟨g3, 0, none⟩))]) (fun g3 => blk g3 34 z.su0.c :: blk g2 34 suZ.c :: K) (fun _ => True) ?_ ?_
  · refine sd_drawn (fun W => AllP W [blk g1 42 z.cells]) (fun _ => true) (by kernel_rfl) 21 rfl ?_
    refine sd_yes2 0 rfl (by exact gd_) (by kernel_rfl) (by kernel_rfl) (by exact nop_) (PuI.all (by exact pv_Ic)) rfl (fun w hw => all_ hw) ?_
    refine sd_yes2 1 rfl (by exact gd_) (by kernel_rfl) (by kernel_rfl) (by exact nop_) (PuI.all (by exact pv_Ic)) rfl (fun w hw => all_ hw) ?_
    refine sd_yes2 3 rfl (by exact gd_) (by kernel_rfl) (by kernel_rfl) (by exact nop_) (PuI.all (by exact pv_Ic)) rfl (fun w hw => all_ hw) ?_
    refine sd_yes2 4 rfl (by exact gd_) (by kernel_rfl) (by kernel_rfl) (by exact nop_) (PuI.all (by exact pv_Ic)) rfl (fun w hw => all_ hw) ?_
    refine sd_yes2 6 rfl (by exact gd_) (by kernel_rfl) (by kernel_rfl) (by exact nop_) (PuI.all (by exact pv_Ic)) rfl (fun w hw => all_ hw) ?_
    refine sd_yes2 7 rfl (by exact gd_) (by kernel_rfl) (by kernel_rfl) (by exact nop_) (PuI.all (by exact pv_Ic)) rfl (fun w hw => all_ hw) ?_
    refine sd_yes2 8 rfl (by exact gd_) (by kernel_rfl) (by kernel_rfl) (by exact nop_) (pu_build (v := z.key.v) rfl (fun W => by kernel_rfl)) rfl (fun w hw => all_ hw) ?_
    refine sd_yes2 9 rfl (by exact gd_) (by kernel_rfl) (by kernel_rfl) (by exact nop_) (PuI.all (by exact pv_Ic)) rfl (fun w hw => all_ hw) ?_
    refine sd_yes2 10 rfl (by exact gd_) (by kernel_rfl) (by kernel_rfl) (by exact nop_) (PuI.all (by exact pv_Ic)) rfl (fun w hw => all_ hw) ?_
    refine sd_yes2 11 rfl (by exact gd_) (by kernel_rfl) (by kernel_rfl) (by exact nop_) (PuI.all (by exact pv_Ic)) rfl (fun w hw => all_ hw) ?_
    refine sd_yes2 12 rfl (by exact gd_) (by kernel_rfl) (by kernel_rfl) (by exact nop_) (PuI.all (by exact pv_Ic)) rfl (fun w hw => all_ hw) ?_
    refine sd_yes2 13 rfl (by exact gd_) (by kernel_rfl) (by kernel_rfl) (by exact nop_) (PuI.all (by exact pv_Ic)) rfl (fun w hw => all_ hw) ?_
    refine sd_yes2 14 rfl (by exact gd_) (by kernel_rfl) (by kernel_rfl) (by exact nop_) (PuI.all (by exact pv_Ic)) rfl (fun w hw => all_ hw) ?_
    refine sd_yes2 15 rfl (by exact gd_) (by kernel_rfl) (by kernel_rfl) (by exact nop_) (PuI.all (by exact pv_Ic)) rfl (fun w hw => all_ hw) ?_
    refine sd_yes2 16 rfl (by exact gd_) (by kernel_rfl) (by kernel_rfl) (by exact nop_) (PuI.all (by exact pv_Ic)) rfl (fun w hw => all_ hw) ?_
    refine sd_yes2 17 rfl (by exact gd_) (by kernel_rfl) (by kernel_rfl) (by exact nop_) (PuI.all (by exact pv_Ic)) rfl (fun w hw => all_ hw) ?_
    refine sd_two 2 19 (by kernel_rfl) (sa_sl 2 rfl ?_) (sa_sl 19 rfl ?_)
    · refine sl_call rfl rfl (by kernel_rfl) rfl (by exact sub_) (stask_ok z.s) ?_
      rintro _ -
      rw [← z.s.ta_c]
      refine sl_nil ?_
      refine se_sd (fun _ w hw => all_ hw) ?_
      refine sd_two 5 19 (by kernel_rfl) (sa_sl 5 rfl ?_) (sa_sl 19 rfl ?_)
      · refine sl_call rfl rfl (by kernel_rfl) rfl (by exact sub_) (smrules_ok z.ha z.hb z.hc) ?_
        rintro _ -
        refine sl_nil ?_
        refine se_sd (fun _ w hw => all_ hw) ?_
        refine sd_yes2 18 rfl (by exact gd_) (by kernel_rfl) (by kernel_rfl) (by exact nop_) (pu_build (v := .agg z.su0.c.toArray) rfl (fun W => by kernel_rfl)) rfl (fun w hw => all_ hw) ?_
        refine sd_one 19 (by kernel_rfl) (sa_sl 19 rfl ?_)
        refine sl_alloc rfl rfl rfl ?_; intro g3
        refine sl_nil ?_
        refine se_sd (fun _ w hw => all_ hw) ?_
        refine sd_one 20 (by kernel_rfl) (sa_sl 20 rfl ?_)
        refine sl_store_whole rfl (by exact pick_) rfl (by rfl) (by rfl) (Su.one _) ?_
        refine sl_nil ?_
        refine se_sd (fun _ w hw => all_ hw) ?_
        refine sd_done (by kernel_rfl) ?_
        exact se_mid g3 (by exact has_) (by exact sub_) trivial
      · refine sl_alloc rfl rfl rfl ?_; intro g3
        refine sl_nil ?_
        refine se_sd (fun _ w hw => all_ hw) ?_
        refine sd_one 5 (by kernel_rfl) (sa_sl 5 rfl ?_)
        refine sl_call rfl rfl (by kernel_rfl) rfl (by exact sub_) (smrules_ok z.ha z.hb z.hc) ?_
        rintro _ -
        refine sl_nil ?_
        refine se_sd (fun _ w hw => all_ hw) ?_
        refine sd_yes2 18 rfl (by exact gd_) (by kernel_rfl) (by kernel_rfl) (by exact nop_) (pu_build (v := .agg z.su0.c.toArray) rfl (fun W => by kernel_rfl)) rfl (fun w hw => all_ hw) ?_
        refine sd_one 20 (by kernel_rfl) (sa_sl 20 rfl ?_)
        refine sl_store_whole rfl (by exact pick_) rfl (by rfl) (by rfl) (Su.one _) ?_
        refine sl_nil ?_
        refine se_sd (fun _ w hw => all_ hw) ?_
        refine sd_done (by kernel_rfl) ?_
        exact se_mid g3 (by exact has_) (by exact sub_) trivial
    · refine sl_alloc rfl rfl rfl ?_; intro g3
      refine sl_nil ?_
      refine se_sd (fun _ w hw => all_ hw) ?_
      refine sd_one 2 (by kernel_rfl) (sa_sl 2 rfl ?_)
      refine sl_call rfl rfl (by kernel_rfl) rfl (by exact sub_) (stask_ok z.s) ?_
      rintro _ -
      rw [← z.s.ta_c]
      refine sl_nil ?_
      refine se_sd (fun _ w hw => all_ hw) ?_
      refine sd_one 5 (by kernel_rfl) (sa_sl 5 rfl ?_)
      refine sl_call rfl rfl (by kernel_rfl) rfl (by exact sub_) (smrules_ok z.ha z.hb z.hc) ?_
      rintro _ -
      refine sl_nil ?_
      refine se_sd (fun _ w hw => all_ hw) ?_
      refine sd_yes2 18 rfl (by exact gd_) (by kernel_rfl) (by kernel_rfl) (by exact nop_) (pu_build (v := .agg z.su0.c.toArray) rfl (fun W => by kernel_rfl)) rfl (fun w hw => all_ hw) ?_
      refine sd_one 20 (by kernel_rfl) (sa_sl 20 rfl ?_)
      refine sl_store_whole rfl (by exact pick_) rfl (by rfl) (by rfl) (Su.one _) ?_
      refine sl_nil ?_
      refine se_sd (fun _ w hw => all_ hw) ?_
      refine sd_done (by kernel_rfl) ?_
      exact se_mid g3 (by exact has_) (by exact sub_) trivial
  rintro g3 -
  have hmx : (0 : Int) ≤ z.su0.r.mx ∧ z.su0.r.mx ≤ 300 := by
    show 0 ≤ 1 + z.b % 4 + z.c % 6 ∧ 1 + z.b % 4 + z.c % 6 ≤ 300
    have := z.hb
    have := z.hc
    omega
  refine go_Ic ?_
  refine se_ret_c () trivial rfl rfl (by exact at_) rfl rfl (by exact sz_Ic) rfl (by exact sub_)
structure Ig where
  j : Nat
  A : Option Addr
  c : Nat
theorem build_enC4 (id : Id) (t code : Int) (W : World) : (Instr.build 62 #[(0, id.v), (1, .int .u64 t), (3, .slice none 0 0), (4, .int .i64 code)]).run Tryz.prog W = .ok (.agg (enC id t code).toArray) W := by
  obtain ⟨a0, a1, a2, a3, a4, a5, a6, a7, a8, a9, a10, a11, a12, a13, a14, a15, h⟩ := list16m id.len
  show (Instr.build 62 #[(0, .agg (bytes id.l).toArray), (1, .int .u64 t), (3, .slice none 0 0), (4, .int .i64 code)]).run Tryz.prog W = _
  unfold enC
  rw [h]
  kernel_rfl
theorem build_mo3 (job : Int) (W : World) : (Instr.build 65 #[(0, .int .u8 3), (1, .int .u64 job)]).run Tryz.prog W = .ok (.agg (moC 3 job none 0 0).toArray) W := by kernel_rfl
end Go.Proofs.YtocaabnbmcpjmaaGreatDoor
/- Package helper: a message that asks about a report that is not there; the fixed fact of the chapter. -/
namespace Go.Proofs.YtocaabnbmcpjmaaGreatDoor
open Go.RowKit Go.MapKept
attribute [local irreducible] Go.Calls Go.Exit.then Go.Exit.inBlock Go.bodyPost Go.Code.wp Go.wpList takeL recordL hashL recL allL
theorem moC_set {k job : Int} {A B : Option Addr} {n c p d : Nat} : SetAt 21 (.slice B p d) (moC k job A n c) (moC k job B p d) := by
  have h1 := SetAt.mk (i := 21) (v := .slice B p d) (r := moC k job A n c) (by rw [moC_len]; decide)
  have e : (moC k job A n c).set 21 (.slice B p d) = moC k job B p d := by
    unfold moC mcs
    rw [List.set_append_right _ _ (by simp [bytes, zId])]
    simp [bytes, zId]
  rwa [e] at h1
theorem moC_21 {k job : Int} {A : Option Addr} {n c : Nat} : nth (moC k job A n c) 21 = some (.slice A n c) := mcs_5
theorem nth_Id {φ : Prop} (h : φ := by (first | rfl | first | exact hn5 | rfl | exact hpC_29 | exact hpC_30 | exact En.nt _ | exact En.np _ | exact En.ns _ | exact En.nc _ | exact moC_21 | exact Me.ne _ | exact enC_16 | exact enC_19 | exact mcs_5 | exact mcs_4 | exact seen_n16 | exact seen_n17)) : φ := h
theorem mid_Id {φ : Prop} (h : φ := by (first | first | exact hpC_mx | exact En.mid _ | exact Me.mid _ | exact enC_mid | exact Mid.all | exact Mid.all | exact Mid.head)) : φ := h
theorem sz_Id {φ : Prop} (h : φ := by (first | rfl | ((try simp only [Su.len, hpC_len, En.len, Me.len, moC_len, enC_len, Seen.len, bytes_length, Id.len]); (first | done | rfl); first | done | fail))) : φ := h
theorem one_Id {φ : Prop} (h : φ := by (first | assumption | exact first | exact Su.one _ | exact En.one _ | exact Me.one _ | exact mcs_one | exact enC_one | exact Seen.one _ | exact one_bytes _ | (simp only [List.mem_cons, List.not_mem_nil, or_false, forall_eq_or_imp, forall_eq]; decide) | exact one_bytes _ | (intro v hv; (repeat (rcases List.mem_cons.1 hv with rfl | hv; rfl)); cases hv))) : φ := h
theorem set_Id {φ : Prop} (h : φ := by (first | (first | exact moC_set) | ((repeat (first | exact SetAt.here | apply SetAt.there)); first | done | fail))) : φ := h
theorem cl_Id {φ : Prop} (h : φ := by first | rfl | exact .t | exact .f | exact .t (by omega) | exact .f (by omega) | exact .u | exact .i (by (first | exact .t (by omega) | exact .f (by omega) | exact .u | exact .i (by omega) | exact .v (by omega) | exact .b (by omega) | exact .w | rfl | omega)) | exact .v (by omega) | exact .b (by omega) | exact .q (by omega) | exact .w | exact .b (by exact at_) rfl (by exact nth_Id) | exact .w (by exact at_) rfl rfl (by exact sz_Id) | exact .s (by exact at_) (by exact mid_Id) rfl rfl (by exact sz_Id) | exact .z rfl rfl ⟨by kernel_rfl⟩ | exact .b rfl rfl ⟨by kernel_rfl⟩ | exact .a rfl rfl ⟨by kernel_rfl⟩ | exact .o rfl | exact .s | exact .n | exact .p rfl | exact .q rfl | exact .c rfl | exact .d rfl | exact .n rfl rfl (by omega) | exact .a rfl rfl (by omega) | exact .p rfl rfl (by omega) (by omega) | exact .y rfl rfl (by omega) (by omega) | exact .o (by exact at_) (by omega) rfl (by exact nth_Id) | exact .m (by exact at_) (by omega) (by exact mid_Id) rfl rfl (by exact sz_Id) | exact .mlen (by exact at_) rfl | exact .t (by exact at_) rfl rfl (by first | exact True.intro | rfl) (by assumption) | exact .f (by exact at_) rfl rfl (by first | exact True.intro | rfl) (by assumption) rfl | exact .t1 (by exact at_) rfl rfl (by first | exact True.intro | rfl) (by assumption) | exact .f1 (by exact at_) rfl rfl (by first | exact True.intro | rfl) (by assumption) rfl | exact .tk (by exact at_) rfl (by assumption) (by assumption) | exact .fk (by exact at_) rfl (by assumption) (by assumption) rfl | exact .tk1 (by exact at_) rfl (by assumption) (by assumption) | exact .fk1 (by exact at_) rfl (by assumption) (by assumption) rfl | exact .r rfl rfl (by omega) (by omega) (by exact nth_Id) rfl | exact .s rfl (by omega) (by assumption) | exact at_ | assumption | exact .r rfl rfl | exact .h rfl rfl rfl (by omega) | exact .l rfl rfl rfl (by omega) (by omega) | exact .g rfl rfl rfl rfl (by omega) (by omega) | exact .h rfl rfl (toN_ (by omega)) (by omega) | exact .l rfl rfl (toN_ (by omega)) (by omega) (by omega) | exact .g rfl rfl (toN_ (by omega)) (toN_ (by omega)) (by omega) (by omega) | exact .o (by decide) | exact .f (by decide) | exact .n (by omega) (by first | decide | (show _ ≤ ((64 : Nat) : Int); omega)) | (constructor; (repeat (first | exact .t (by omega) | exact .f (by omega) | exact .u | exact .i (by omega) | exact .v (by omega) | exact .b (by omega) | exact .w | rfl | omega)); first | done | fail) | omega | (show _ ≤ ((64 : Nat) : Int); omega)) : φ := h
theorem pv_Id {φ : Prop} (h : φ := by constructor; (repeat exact cl_Id); first | done | fail) : φ := h
theorem su_Id {φ ψ : Prop} (k : ψ) (h : Hide ψ → φ := by (intro k; (first | refine sl_pu (PuI.sep (by exact pv_Id)) rfl ?_ | refine sl_yes rfl rfl ?_ | refine sl_no rfl rfl rfl ?_ | refine sl_off rfl rfl rfl ?_ | (fail)); exact k.out)) : φ := h ⟨k⟩
theorem sto_Id {φ ψ : Prop} (k : ψ) (h : Hide ψ → φ := by (intro k; (first | refine sl_store rfl (by exact pick_) rfl rfl (by kernel_rfl) (by exact set_Id) ?_ | refine sl_store_whole rfl (by exact pick_) rfl (by exact sz_Id) (by exact sz_Id) (by exact one_Id) ?_); exact k.out)) : φ := h ⟨k⟩
theorem go_Id {φ ψ : Prop} (k : ψ) (h : Hide ψ → φ := by (intro k; (repeat (first | refine su_Id ?_ | refine so_ ?_ | refine sto_Id ?_)); exact k.out)) : φ := h ⟨k⟩
set_option maxRecDepth 100000 in
theorem hnone_wait {K : List Fa} {gh : Nat} {e : En} (hc : e.code ≠ 19) :
    Fn Tryz.prog 89 #[.pointer (some ⟨gh, 0, none⟩), e.v] K (Ret (fun _ : Unit => True) (fun _ => .int .i64 30) (fun _ => K)) := by
  refine fn_enter Tryz.func89 rfl _ Tryz.ntmps89 (by simp) [(0, .pointer (some ⟨gh, 0, none⟩)), (1, e.v)] (args_of (by simp)) ?_
  refine go_Id ?_
  refine sl_box rfl rfl rfl ?_; intro g3
  refine go_Id ?_
  exact se_ret1 () trivial rfl rfl (by exact sub_)
set_option maxRecDepth 100000 in
set_option maxHeartbeats 4000000 in
theorem hone_no {K : List Fa} {gh gx g : Nat} {x : Su} {t : Ta} {r : Rl} {lim : Int} {q : StM} {e : En} (hs : Srt q.ss) (hn : q.ss.length ≤ 1000000) (hno : hasI q.ss e.id = false) (hc : e.code ≠ 19) :
    Fn Tryz.prog 68 #[.pointer (some ⟨gh, 0, none⟩), e.v] (hpB gh x gx g :: sF g t r lim q K) (Ret (fun _ : Unit => True) (fun _ => .tuple #[.slice none 0 0, .int .i64 30]) (fun _ => hpB gh x gx g :: sF g t r lim q K)) := by
  refine fn_enter Tryz.func68 rfl _ Tryz.ntmps68 (by simp) [(0, .pointer (some ⟨gh, 0, none⟩)), (1, e.v)] (args_of (by simp)) ?_
  refine go_Id ?_
  refine sl_box rfl rfl rfl ?_; intro g3
  refine go_Id ?_
  refine sc_join (α := Nat) (fun g6 => [(0, .pointer (some ⟨gh, 0, none⟩)), (3, .pointer (some ⟨g3, 0, none⟩)), (4, .slice none 0 0), (6, .pointer (some ⟨g6, 0, none⟩)), (7, .bool (hasI q.ss e.id))]) (fun g6 => blk g6 103 (gotI q.ss e.id).cells :: blk g3 62 e.cells :: hpB gh x gx g :: sF g t r lim q K) (fun _ => True) ?_ ?_
  · refine sd_drawn (fun W => AllP W [hpB gh x gx g, blk g3 62 e.cells]) (fun _ => true) (by kernel_rfl) 13 rfl ?_
    refine sd_yes2 0 rfl (by exact gd_) (by kernel_rfl) (by kernel_rfl) (by exact nop_) (PuI.all (by exact pv_Id)) rfl (fun w hw => all_ hw) ?_
    refine sd_yes2 1 rfl (by exact gd_) (by kernel_rfl) (by kernel_rfl) (by exact nop_) (PuI.all (by exact pv_Id)) rfl (fun w hw => all_ hw) ?_
    refine sd_yes2 2 rfl (by exact gd_) (by kernel_rfl) (by kernel_rfl) (by exact nop_) (PuI.all (by exact pv_Id)) rfl (fun w hw => all_ hw) ?_
    refine sd_yes2 3 rfl (by exact gd_) (by kernel_rfl) (by kernel_rfl) (by exact nop_) (PuI.all (by exact pv_Id)) rfl (fun w hw => all_ hw) ?_
    refine sd_yes2 4 rfl (by exact gd_) (by kernel_rfl) (by kernel_rfl) (by exact nop_) (PuI.all (by exact pv_Id)) rfl (fun w hw => all_ hw) ?_
    refine sd_yes2 5 rfl (by exact gd_) (by kernel_rfl) (by kernel_rfl) (by exact nop_) (PuI.all (by exact pv_Id)) rfl (fun w hw => all_ hw) ?_
    refine sd_two 6 10 (by kernel_rfl) (sa_sl 6 rfl ?_) (sa_sl 10 rfl ?_)
    · refine sl_call rfl rfl (by kernel_rfl) rfl (by exact Sub.cons (by exact pick_) (Sub.cons (by exact pick_) (Sub.cons (by exact pick_) (Sub.cons (by exact pick_) (Sub.cons (by exact pick_) (Sub.cons (by exact pick_) (Sub.cons (by exact pick_) (Sub.cons (by exact pick_) (Sub.cons (by exact pick_) (Sub.cons (by exact pick_) (Sub.refl))))))))))) (sSeen_ok (g := g) (t := t) (r := r) (lim := lim) (id := e.id) hs hn) ?_
      rintro _ -
      refine sl_nil ?_
      refine se_sd (fun _ w hw => all_ hw) ?_
      refine sd_yes2 7 rfl (by exact gd_) (by kernel_rfl) (by kernel_rfl) (by exact nop_) (PuI.all (by exact pv_Id)) rfl (fun w hw => all_ hw) ?_
      refine sd_yes2 8 rfl (by exact gd_) (by kernel_rfl) (by kernel_rfl) (by exact nop_) (PuI.all (by exact pv_Id)) rfl (fun w hw => all_ hw) ?_
      refine sd_yes2 9 rfl (by exact gd_) (by kernel_rfl) (by kernel_rfl) (by exact nop_) (PuI.all (by exact pv_Id)) rfl (fun w hw => all_ hw) ?_
      refine sd_one 10 (by kernel_rfl) (sa_sl 10 rfl ?_)
      refine sl_alloc rfl rfl rfl ?_; intro g6
      refine sl_nil ?_
      refine se_sd (fun _ w hw => all_ hw) ?_
      refine sd_one 11 (by kernel_rfl) (sa_sl 11 rfl ?_)
      refine sl_store_whole (cl := (gotI q.ss e.id).cells) rfl (by exact pick_) rfl (by rw [Seen.len]; rfl) (by rw [Seen.len]; rfl) (Seen.one _) ?_
      refine sl_nil ?_
      refine se_sd (fun _ w hw => all_ hw) ?_
      refine sd_yes2 12 rfl (by exact gd_) (by kernel_rfl) (by kernel_rfl) (by exact nop_) (PuI.all (by exact pv_Id)) rfl (fun w hw => all_ hw) ?_
      refine sd_done (by kernel_rfl) ?_
      exact se_mid g6 (by exact has_) (by exact sub_) trivial
    · refine sl_alloc rfl rfl rfl ?_; intro g6
      refine sl_nil ?_
      refine se_sd (fun _ w hw => all_ hw) ?_
      refine sd_one 6 (by kernel_rfl) (sa_sl 6 rfl ?_)
      refine sl_call rfl rfl (by kernel_rfl) rfl (by exact Sub.cons (by exact pick_) (Sub.cons (by exact pick_) (Sub.cons (by exact pick_) (Sub.cons (by exact pick_) (Sub.cons (by exact pick_) (Sub.cons (by exact pick_) (Sub.cons (by exact pick_) (Sub.cons (by exact pick_) (Sub.cons (by exact pick_) (Sub.cons (by exact pick_) (Sub.refl))))))))))) (sSeen_ok (g := g) (t := t) (r := r) (lim := lim) (id := e.id) hs hn) ?_
      rintro _ -
      refine sl_nil ?_
      refine se_sd (fun _ w hw => all_ hw) ?_
      refine sd_yes2 7 rfl (by exact gd_) (by kernel_rfl) (by kernel_rfl) (by exact nop_) (PuI.all (by exact pv_Id)) rfl (fun w hw => all_ hw) ?_
      refine sd_yes2 8 rfl (by exact gd_) (by kernel_rfl) (by kernel_rfl) (by exact nop_) (PuI.all (by exact pv_Id)) rfl (fun w hw => all_ hw) ?_
      refine sd_yes2 9 rfl (by exact gd_) (by kernel_rfl) (by kernel_rfl) (by exact nop_) (PuI.all (by exact pv_Id)) rfl (fun w hw => all_ hw) ?_
      refine sd_one 11 (by kernel_rfl) (sa_sl 11 rfl ?_)
      refine sl_store_whole (cl := (gotI q.ss e.id).cells) rfl (by exact pick_) rfl (by rw [Seen.len]; rfl) (by rw [Seen.len]; rfl) (Seen.one _) ?_
      refine sl_nil ?_
      refine se_sd (fun _ w hw => all_ hw) ?_
      refine sd_yes2 12 rfl (by exact gd_) (by kernel_rfl) (by kernel_rfl) (by exact nop_) (PuI.all (by exact pv_Id)) rfl (fun w hw => all_ hw) ?_
      refine sd_done (by kernel_rfl) ?_
      exact se_mid g6 (by exact has_) (by exact sub_) trivial
  rintro g6 -
  rw [hno]
  refine go_Id ?_
  refine sl_call rfl rfl (by kernel_rfl) rfl (by exact sub_) (hnone_wait hc) ?_; rintro _ -
  refine go_Id ?_
  exact se_ret2 () trivial rfl rfl rfl rfl (by exact sub_)
set_option maxRecDepth 100000 in
set_option maxHeartbeats 4000000 in
theorem hinit1 {K : List Fa} {gh gx g gd md σ ckd : Nat} {x : Su} {t : Ta} {r : Rl} {lim limd : Int} {q : StM} {ls : List (List Int)} {f : DF} {m : Me} {e : En} (hs : Srt q.ss) (hn : q.ss.length ≤ 1000000) (hno : hasI q.ss e.id = false) (hc : e.code ≠ 19) (he : m.es = [e]) (hv : MeV K m) (hF : JFl ls σ f) (hfl : f.l.length ≤ 1048576) :
    Fn Tryz.prog 33 #[.pointer (some ⟨gh, 0, none⟩), m.v] (hpB gh x gx g :: sF g t r lim q (jC q.gj gd sj (cellsA ls) :: dB gd md limd :: dM md [f] ckd :: dS [f] :: K))
      (Ret (fun z : Ig × DF => JFl ls f.l.length z.2) (fun z => .tuple #[.agg (moC 3 m.job z.1.A 1 z.1.c).toArray, .int .i64 0]) (fun z => own 62 20 z.1.A 1 z.1.c (enC e.id e.t 30) :: hpB gh x gx g :: sF g t r lim q (jC q.gj gd sj (cellsA ls) :: dB gd md limd :: dM md [z.2] ckd :: dS [z.2] :: K))) := by
  refine fn_enter Tryz.func33 rfl _ Tryz.ntmps33 (by simp) [(0, .pointer (some ⟨gh, 0, none⟩)), (1, m.v)] (args_of (by simp)) ?_
  have hrow := hv.row
  have hl1 : m.es.length = 1 := by rw [he]; rfl
  have hmid : m.es[0]? = some e := by rw [he]; rfl
  have hmd : Mid (rows En.cells m.es) (0 * 20) e.cells := rows_mid En.len hmid
  rw [hl1] at hrow
  refine sc_know (vw_form (hrow.mono (by exact sub_)) (by omega)) ?_
  rintro ⟨ad, hA⟩
  rw [hA] at hrow
  have hn5 : nth m.cells 21 = some (.slice (some ad) 1 m.c) := by rw [m.ne, hA, hl1]
  refine go_Id ?_
  refine sl_box rfl rfl rfl ?_; intro g3
  refine go_Id ?_
  refine sl_alloc rfl rfl rfl ?_; intro g4
  refine go_Id ?_
  refine sl_pu (pu_build (v := .agg (moC 3 m.job none 0 0).toArray) rfl (fun W => build_mo3 _ W)) rfl ?_
  refine go_Id ?_
  refine sl_alloc rfl rfl rfl ?_; intro g6
  refine go_Id ?_
  refine sc_for (fun z : Ig => [(0, .pointer (some ⟨gh, 0, none⟩)), (4, .pointer (some ⟨g4, 0, none⟩)), (6, .pointer (some ⟨g6, 0, none⟩)), (16, .slice (some ad) 1 m.c), (17, .int .i64 1), (18, .int .i64 z.j)])
    (fun z => own 62 20 z.A z.j z.c (if z.j = 0 then [] else enC e.id e.t 30) :: blk g6 65 (moC 3 m.job z.A z.j z.c) :: blk g4 65 (moC 0 0 none 0 0) :: hpB gh x gx g :: sF g t r lim q (jC q.gj gd sj (cellsA ls) :: dB gd md limd :: dM md [f] ckd :: dS [f] :: K))
    (fun z => z.j ≤ 1) (fun z => 1 - z.j) ⟨0, none, 0⟩ (by exact has_) (by exact Sub.own_nil (by exact sub_)) (by decide) ?_
  rintro ⟨j, A, c⟩ hj
  dsimp only at hj ⊢
  by_cases hlt : j < 1
  · obtain rfl : j = 0 := by omega
    rw [if_pos rfl]
    refine go_Id ?_
    refine sl_pu (pu_ldrs (hrow.mono (by exact sub_)) (by omega) rfl hmd rfl rfl (by exact sz_Id)) rfl ?_
    refine go_Id ?_
    refine sl_alloc rfl rfl rfl ?_; intro g8
    refine go_Id ?_
    refine sl_call rfl rfl (by kernel_rfl) rfl (by exact sub_) (hone_no (K := blk g8 62 e.cells :: own 62 20 A 0 c [] :: blk g6 65 (moC 3 m.job A 0 c) :: blk g4 65 (moC 0 0 none 0 0) :: jC q.gj gd sj (cellsA ls) :: dB gd md limd :: dM md [f] ckd :: dS [f] :: K) (gh := gh) (gx := gx) (g := g) (x := x) (t := t) (r := r) (lim := lim) (e := e) hs hn hno hc) ?_
    rintro _ -
    refine go_Id ?_
    refine sl_pu (pu_build (v := .agg (enC e.id e.t 30).toArray) rfl (fun W => build_enC4 _ _ _ W)) rfl ?_
    refine sl_build (size := 20) (e := 62) (cells := enC e.id e.t 30) rfl (fun W => build_en enC_len W) (by rw [enC_len]) (by decide) rfl ?_
    intro gr
    refine sl_app rfl (by exact pick_) rfl (Vw.of_own (A := some ⟨gr, 0, none⟩) (c := 1) (e := 62) (by exact at_)) enC_one rfl Tryz.infoEn (by rfl) (by decide) rfl (by unfold maxLen; omega) (by omega) ?_
    intro A2 c2
    rw [Nat.zero_add, List.nil_append]
    refine go_Id ?_
    exact se_round ⟨1, A2, c2⟩ (by exact has_) (by exact sub_) (Nat.le_refl 1) (by dsimp only; omega)
  · obtain rfl : j = 1 := by omega
    rw [if_neg (by decide)]
    refine go_Id ?_
    refine sl_call rfl rfl (by kernel_rfl) rfl (by exact sub_) (ssync_ok (g := g) (gj := q.gj) (gi := q.gi) (gb := q.gb) (mw := q.mw) (ms := q.ms) (gd := gd) (md := md) (ckd := ckd) (t := t) (life := q.life) (lim := limd) (k := cellsA ls) (K := ixb q.gi q.iA q.ss.length q.ic lim :: ixo q.iA q.ic q.ss :: bB q.gb t r q.mb :: bM q.mb q.fs q.cb :: bS q.fs :: wM q.mw q.ws q.cw :: wS q.ws :: dMm q.ms q.sd q.cs :: dSs q.sd :: own 62 20 A 1 c (enC e.id e.t 30) :: blk g6 65 (moC 3 m.job A 1 c) :: blk g4 65 (moC 0 0 none 0 0) :: hpB gh x gx g :: K) hF hfl) ?_
    rintro f3 hF3
    refine go_Id ?_
    exact se_ret_ct (⟨1, A, c⟩, f3) hF3 rfl rfl (by exact at_) rfl rfl (by exact sz_Id) rfl rfl (by exact sub_)
end Go.Proofs.YtocaabnbmcpjmaaGreatDoor
/- Package helper: Receive; the fixed fact of the chapter. -/
namespace Go.Proofs.YtocaabnbmcpjmaaGreatDoor
open Go.RowKit Go.MapKept
attribute [local irreducible] Go.Calls Go.Exit.then Go.Exit.inBlock Go.bodyPost Go.Code.wp Go.wpList takeL recordL hashL recL allL
def zS23 : S23 := ⟨s0, 0, 0, 0, 0, 0, 0, by decide, by decide, by decide, by decide, by decide, by decide⟩
/-- An entry of an id. -/
def enI (id : Id) : En := ⟨id, 0, none, 0, 0, [], none, 0, 0, [], 0, by decide, by decide, Nat.le_refl _, Nat.le_refl _, (fun _ h => by cases h), (fun _ h => by cases h)⟩
def meI (id : Id) (g : Nat) : Me := ⟨2, 5, 0, 0, zId, 0, some ⟨g, 0, none⟩, 1, [enI id], by decide, by decide, by decide, by decide, by decide⟩
theorem meI_ck (id : Id) (g : Nat) : msgCheck (meI id g).ab = 0 := rfl
theorem build_enI (id : Id) (W : World) : (Instr.build 62 #[(0, id.v)]).run Tryz.prog W = .ok (.agg (enI id).cells.toArray) W := by
  obtain ⟨a0, a1, a2, a3, a4, a5, a6, a7, a8, a9, a10, a11, a12, a13, a14, a15, h⟩ := list16m id.len
  show (Instr.build 62 #[(0, .agg (bytes id.l).toArray)]).run Tryz.prog W = .ok (.agg (bytes id.l ++ ([.int .u64 0, .slice none 0 0, .slice none 0 0, .int .i64 0] : List Value)).toArray) W
  rw [h]
  kernel_rfl
theorem meI_v {L : List Fa} {id : Id} {g : Nat} (h : At (own 62 20 (some ⟨g, 0, none⟩) 1 1 (enI id).cells) L) : MeV L (meI id g) := fun w hw => by
  have h1 : Reads w 20 (some ⟨g, 0, none⟩) 1 (enI id).cells := Vw.of_own (e := 62) (c := 1) h w hw
  refine ⟨?_, fun e he => ?_⟩
  · show Reads w 20 (some ⟨g, 0, none⟩) 1 (rows En.cells [enI id])
    have e : rows En.cells [enI id] = (enI id).cells := by simp [rows]
    rw [e]
    exact h1
  · obtain rfl : e = enI id := List.mem_singleton.1 he
    exact ⟨Reads.nil_ _, Reads.nil_ _⟩
theorem nth_Ie {φ : Prop} (h : φ := by (first | rfl | first | exact hpC_29 | exact hpC_30 | rfl | exact enC_16 | exact enC_19 | exact mcs_5 | exact mcs_4)) : φ := h
theorem mid_Ie {φ : Prop} (h : φ := by (first | first | exact Mid.all | exact Mid.all | exact Mid.head)) : φ := h
theorem sz_Ie {φ : Prop} (h : φ := by (first | rfl | ((try simp only [Su.len, hpC_len, En.len, Me.len, moC_len, enC_len, Seen.len, bytes_length, Id.len]); (first | done | rfl); first | done | fail))) : φ := h
theorem one_Ie {φ : Prop} (h : φ := by (first | assumption | exact first | exact Su.one _ | exact En.one _ | exact Me.one _ | exact mcs_one | exact enC_one | exact Seen.one _ | exact one_bytes _ | (simp only [List.mem_cons, List.not_mem_nil, or_false, forall_eq_or_imp, forall_eq]; decide) | exact one_bytes _ | (intro v hv; (repeat (rcases List.mem_cons.1 hv with rfl | hv; rfl)); cases hv))) : φ := h
theorem set_Ie {φ : Prop} (h : φ := by (first | (fail) | ((repeat (first | exact SetAt.here | apply SetAt.there)); first | done | fail))) : φ := h
theorem cl_Ie {φ : Prop} (h : φ := by first | rfl | exact .t | exact .f | exact .t (by omega) | exact .f (by omega) | exact .u | exact .i (by (first | exact .t (by omega) | exact .f (by omega) | exact .u | exact .i (by omega) | exact .v (by omega) | exact .b (by omega) | exact .w | rfl | omega)) | exact .v (by omega) | exact .b (by omega) | exact .q (by omega) | exact .w | exact .b (by exact at_) rfl (by exact nth_Ie) | exact .w (by exact at_) rfl rfl (by exact sz_Ie) | exact .s (by exact at_) (by exact mid_Ie) rfl rfl (by exact sz_Ie) | exact .z rfl rfl ⟨by kernel_rfl⟩ | exact .b rfl rfl ⟨by kernel_rfl⟩ | exact .a rfl rfl ⟨by kernel_rfl⟩ | exact .o rfl | exact .s | exact .n | exact .p rfl | exact .q rfl | exact .c rfl | exact .d rfl | exact .n rfl rfl (by omega) | exact .a rfl rfl (by omega) | exact .p rfl rfl (by omega) (by omega) | exact .y rfl rfl (by omega) (by omega) | exact .o (by exact at_) (by omega) rfl (by exact nth_Ie) | exact .m (by exact at_) (by omega) (by exact mid_Ie) rfl rfl (by exact sz_Ie) | exact .mlen (by exact at_) rfl | exact .t (by exact at_) rfl rfl (by first | exact True.intro | rfl) (by assumption) | exact .f (by exact at_) rfl rfl (by first | exact True.intro | rfl) (by assumption) rfl | exact .t1 (by exact at_) rfl rfl (by first | exact True.intro | rfl) (by assumption) | exact .f1 (by exact at_) rfl rfl (by first | exact True.intro | rfl) (by assumption) rfl | exact .tk (by exact at_) rfl (by assumption) (by assumption) | exact .fk (by exact at_) rfl (by assumption) (by assumption) rfl | exact .tk1 (by exact at_) rfl (by assumption) (by assumption) | exact .fk1 (by exact at_) rfl (by assumption) (by assumption) rfl | exact .r rfl rfl (by omega) (by omega) (by exact nth_Ie) rfl | exact .s rfl (by omega) (by assumption) | exact at_ | assumption | exact .r rfl rfl | exact .h rfl rfl rfl (by omega) | exact .l rfl rfl rfl (by omega) (by omega) | exact .g rfl rfl rfl rfl (by omega) (by omega) | exact .h rfl rfl (toN_ (by omega)) (by omega) | exact .l rfl rfl (toN_ (by omega)) (by omega) (by omega) | exact .g rfl rfl (toN_ (by omega)) (toN_ (by omega)) (by omega) (by omega) | exact .o (by decide) | exact .f (by decide) | exact .n (by omega) (by first | decide | (show _ ≤ ((64 : Nat) : Int); omega)) | (constructor; (repeat (first | exact .t (by omega) | exact .f (by omega) | exact .u | exact .i (by omega) | exact .v (by omega) | exact .b (by omega) | exact .w | rfl | omega)); first | done | fail) | omega | (show _ ≤ ((64 : Nat) : Int); omega)) : φ := h
theorem pv_Ie {φ : Prop} (h : φ := by constructor; (repeat exact cl_Ie); first | done | fail) : φ := h
theorem su_Ie {φ ψ : Prop} (k : ψ) (h : Hide ψ → φ := by (intro k; (first | refine sl_pu (PuI.sep (by exact pv_Ie)) rfl ?_ | refine sl_yes rfl rfl ?_ | refine sl_no rfl rfl rfl ?_ | refine sl_off rfl rfl rfl ?_ | (fail)); exact k.out)) : φ := h ⟨k⟩
theorem sto_Ie {φ ψ : Prop} (k : ψ) (h : Hide ψ → φ := by (intro k; (first | refine sl_store rfl (by exact pick_) rfl rfl (by kernel_rfl) (by exact set_Ie) ?_ | refine sl_store_whole rfl (by exact pick_) rfl (by exact sz_Ie) (by exact sz_Ie) (by exact one_Ie) ?_); exact k.out)) : φ := h ⟨k⟩
theorem go_Ie {φ ψ : Prop} (k : ψ) (h : Hide ψ → φ := by (intro k; (repeat (first | refine su_Ie ?_ | refine so_ ?_ | refine sto_Ie ?_)); exact k.out)) : φ := h ⟨k⟩
set_option maxRecDepth 100000 in
set_option maxHeartbeats 4000000 in
theorem hrecv1 {K : List Fa} {gh gx g gd md σ ckd : Nat} {x : Su} {t : Ta} {r : Rl} {lim limd now : Int} {q : StM} {ls : List (List Int)} {f : DF} {m : Me} {e : En} (hs : Srt q.ss) (hn : q.ss.length ≤ 1000000) (hno : hasI q.ss e.id = false) (hc : e.code ≠ 19) (he : m.es = [e]) (hk : m.kind = 2) (hck : msgCheck m.ab = 0) (hv : MeV K m) (hF : JFl ls σ f) (hfl : f.l.length ≤ 1048576) :
    Fn Tryz.prog 15 #[.pointer (some ⟨gh, 0, none⟩), .int .u64 now, m.v] (hpB gh x gx g :: sF g t r lim q (jC q.gj gd sj (cellsA ls) :: dB gd md limd :: dM md [f] ckd :: dS [f] :: K))
      (Ret (fun z : Ig × DF => JFl ls f.l.length z.2) (fun z => .tuple #[.agg (moC 3 m.job z.1.A 1 z.1.c).toArray, .int .i64 0]) (fun z => own 62 20 z.1.A 1 z.1.c (enC e.id e.t 30) :: hpB gh x gx g :: sF g t r lim q (jC q.gj gd sj (cellsA ls) :: dB gd md limd :: dM md [z.2] ckd :: dS [z.2] :: K))) := by
  refine fn_enter Tryz.func15 rfl _ Tryz.ntmps15 (by simp) [(0, .pointer (some ⟨gh, 0, none⟩)), (1, .int .u64 now), (2, m.v)] (args_of (by simp)) ?_
  have hl1 : m.es.length = 1 := by rw [he]; rfl
  refine go_Ie ?_
  refine sl_box rfl rfl rfl ?_; intro g5
  refine go_Ie ?_
  refine sl_alloc rfl rfl rfl ?_; intro g6
  refine go_Ie ?_
  refine sl_call rfl rfl (by kernel_rfl) rfl (by exact sub_) (Check_ok (m := m) (hv.mono (by exact sub_)) (by omega)) ?_; rintro _ -
  rw [hck]
  refine go_Ie ?_
  refine sl_call rfl rfl (by kernel_rfl) rfl (by exact sub_) (hinit1 (K := blk g6 65 (moC 0 0 none 0 0) :: blk g5 65 m.cells :: K) (gh := gh) (gx := gx) (g := g) (gd := gd) (md := md) (ckd := ckd) (x := x) (t := t) (r := r) (lim := lim) (limd := limd) (q := q) (f := f) (e := e) hs hn hno hc he (hv.mono (by exact sub_)) hF hfl) ?_
  rintro ⟨z, f3⟩ hF3
  dsimp only at hF3 ⊢
  refine go_Ie ?_
  exact se_ret_ct (z, f3) hF3 rfl rfl (by exact at_) rfl rfl (by exact sz_Ie) rfl rfl (by exact sub_)
set_option maxRecDepth 100000 in
set_option maxHeartbeats 8000000 in
theorem awake23 {K : List Fa} :
    Fn Tryz.prog 6 #[] K (Ret (fun _ : Unit => True) (fun _ => .bool true) (fun _ => K)) := by
  refine fn_enter Tryz.func6 rfl _ Tryz.ntmps6 (by simp) [] (args_of (by simp)) ?_
  refine go_Ie ?_
  refine sl_pu (pu_build (v := .agg zS23.cells.toArray) rfl (fun W => by kernel_rfl)) rfl ?_
  refine sl_call rfl rfl (by kernel_rfl) rfl (by exact sub_) (hsetup_ok zS23) ?_; rintro _ -
  obtain ⟨x, hx⟩ : ∃ x, x = zS23.su := ⟨_, rfl⟩
  have hxe : x.err = 0 := by rw [hx]; exact zS23.ok
  rw [← hx]
  refine go_Ie ?_
  refine sl_alloc rfl rfl rfl ?_; intro g1
  refine go_Ie ?_
  refine sc_join (α := OpR × Nat × Nat × Nat × Nat) (fun z => [(1, .pointer (some ⟨g1, 0, none⟩)), (2, .pointer (some ⟨z.2.1, 0, none⟩)), (3, .int .i64 0)]) (fun z => hpB z.2.1 x z.2.2.1 z.1.g :: sF z.1.g x.t x.r (min (max x.lim 0) 256) z.1.q (jC z.1.q.gj z.2.2.2.1 sj (cellsA [5 :: rcLife 1]) :: dB z.2.2.2.1 z.2.2.2.2 100000 :: dM z.2.2.2.2 [z.1.f] z.1.ck :: dS [z.1.f] :: K))
    (fun z => ∃ p, iN0 p z.1.g 0 { z.1.q with life := 0 } ∧ z.1.q.life = 1 ∧ JFl [5 :: rcLife 1] 64 z.1.f) ?_ ?_
  · refine sd_drawn (fun W => AllP W [blk g1 34 x.c]) (fun _ => true) (by kernel_rfl) 9 rfl ?_
    refine sd_yes2 0 rfl (by exact gd_) (by kernel_rfl) (by kernel_rfl) (by exact nop_) (PuI.all (by exact pv_Ie)) rfl (fun w hw => all_ hw) ?_
    refine sd_one 1 (by kernel_rfl) (sa_sl 1 rfl ?_)
    refine sl_call rfl rfl (by kernel_rfl) rfl (by exact sub_) xreal_ok ?_
    rintro gx -
    refine sl_nil ?_
    refine se_sd (fun _ w hw => all_ hw) ?_
    refine sd_one 2 (by kernel_rfl) (sa_sl 2 rfl ?_)
    refine sl_call rfl rfl (by kernel_rfl) rfl (by exact sub_) newD_ok ?_
    rintro ⟨gd, md⟩ -
    dsimp only
    rw [show limL 100000 = 100000 by rfl]
    refine sl_nil ?_
    refine se_sd (fun _ w hw => all_ hw) ?_
    refine sd_one 3 (by kernel_rfl) (sa_sl 3 rfl ?_)
    refine sl_call rfl rfl (by kernel_rfl) rfl (by exact sub_) (hnew_ok (α := OpR) (K := xoB gx :: blk g1 34 x.c :: K) (gx := gx) (gd := gd) (gk := fun o : OpR => o.g) (D := fun E => dB gd md 100000 :: dM md [] 0 :: dS [] :: E) (H := fun (o : OpR) E => sF o.g x.t x.r (min (max x.lim 0) 256) o.q (jC o.q.gj gd sj (cellsA [5 :: rcLife 1]) :: dB gd md 100000 :: dM md [o.f] o.ck :: dS [o.f] :: E)) hxe (fun f E => by exact sub_) (fun o f E => by exact sub_) (fun E => hop0 (K0 := E) (limd := 100000) (Su.err_r hxe).1 (by decide))) ?_
    rintro ⟨o, gh⟩ ho
    dsimp only at ho ⊢
    refine sl_nil ?_
    refine se_sd (fun _ w hw => all_ hw) ?_
    refine sd_yes2 4 rfl (by exact gd_) (by kernel_rfl) (by kernel_rfl) (by exact nop_) (PuI.all (by exact pv_Ie)) rfl (fun w hw => all_ hw) ?_
    refine sd_yes2 5 rfl (by exact gd_) (by kernel_rfl) (by kernel_rfl) (by exact nop_) (PuI.all (by exact pv_Ie)) rfl (fun w hw => all_ hw) ?_
    refine sd_yes2 6 rfl (by exact gd_) (by kernel_rfl) (by kernel_rfl) (by exact nop_) (PuI.all (by exact pv_Ie)) rfl (fun w hw => all_ hw) ?_
    refine sd_yes2 7 rfl (by exact gd_) (by kernel_rfl) (by kernel_rfl) (by exact nop_) (PuI.all (by exact pv_Ie)) rfl (fun w hw => all_ hw) ?_
    refine sd_yes2 8 rfl (by exact gd_) (by kernel_rfl) (by kernel_rfl) (by exact nop_) (PuI.all (by exact pv_Ie)) rfl (fun w hw => all_ hw) ?_
    refine sd_done (by kernel_rfl) ?_
    exact se_mid (o, gh, gx, gd, md) (by exact has_) (by exact sub_) ho
  rintro ⟨⟨g, q, f, ck⟩, gh, gx, gd, md⟩ ⟨p, ⟨i1, i2, i3, i4, i5, i6⟩, hl, hF⟩
  dsimp only at i1 i2 i3 i4 i5 i6 hl hF ⊢
  have hfl : f.l.length = 64 := by rw [hF.2.1, allL_len]; decide
  refine go_Ie ?_
  refine sl_pu (pu_build (v := bid1.v) rfl (fun W => by kernel_rfl)) rfl ?_
  refine sl_pu (pu_build (v := .agg (enI bid1).cells.toArray) rfl (fun W => build_enI _ W)) rfl ?_
  refine sl_build (size := 20) (e := 62) (cells := (enI bid1).cells) rfl (fun W => build_en (En.len _) W) (by rw [En.len]) (by decide) rfl ?_
  intro ge
  refine sl_pu (pu_build (v := (meI bid1 ge).v) rfl (fun W => by kernel_rfl)) rfl ?_
  refine go_Ie ?_
  refine sl_call rfl rfl (by kernel_rfl) rfl (by exact sub_) (hrecv1 (K := own 62 20 (some ⟨ge, 0, none⟩) 1 1 (enI bid1).cells :: K) (gh := gh) (gx := gx) (g := g) (gd := gd) (md := md) (ckd := ck) (x := x) (t := x.t) (r := x.r) (lim := min (max x.lim 0) 256) (limd := 100000) (q := q) (ls := [5 :: rcLife 1]) (f := f) (m := meI bid1 ge) (e := enI bid1) (by rw [i2]; exact srt_nil) (by rw [i2]; decide) (by rw [i2]; rfl) (by decide) rfl rfl (meI_ck bid1 ge) (meI_v .here) hF (by omega)) ?_
  rintro ⟨⟨zj, A, c⟩, f3⟩ hF3
  dsimp only at hF3 ⊢
  rw [show (meI bid1 ge).job = 5 from rfl]
  refine sl_form (A := A) (by exact at_) (by decide) ?_
  rintro ga rfl
  refine go_Ie ?_
  refine sl_alloc rfl rfl rfl ?_; intro g4
  refine go_Ie ?_
  refine sl_pu (pu_ldr (i := 19) (Vw.of_own (e := 62) (A := some ⟨ga, 0, none⟩) (c := c) (by exact at_)) (by decide) rfl rfl enC_19) rfl ?_
  refine go_Ie ?_
  exact se_ret1 () trivial rfl rfl (by exact sub_)
end Go.Proofs.YtocaabnbmcpjmaaGreatDoor
/- HelperSetups: the walk. -/
namespace Go.Proofs.YtocaabnbmcpjmaaGreatDoor
open Go.RowKit Go.MapKept
attribute [local irreducible] Go.Calls Go.Exit.then Go.Exit.inBlock Go.bodyPost Go.Code.wp Go.wpList takeL recordL hashL recL allL
end Go.Proofs.YtocaabnbmcpjmaaGreatDoor
/- Setups, and small ones, as they come in. (The openers are printed by wip/tools/gen_open.py.) -/
namespace Go.Proofs.YtocaabnbmcpjmaaGreatDoor
open Go.RowKit Go.ChangeShapes Go.WideShapes Go.Deep
section
variable {H : Type} {enc : TypeId × Value → H} {w : World} {base : Nat} {spare : Nat → Bool} {held : Bool} {fuel : Nat} {cs : List Value} {x : DataW H × List MemPlace}
def TaP (cs : List Value) : Prop := ∃ t : Ta, cs = t.c
theorem open_taskc (h : DataW.trod enc Tryz.prog w base spare held fuel 27 cs = some x) : ∃ z : List Value, cs = z ∧ TaP z := by
  obtain ⟨z, p, u, h1, ⟨k, f, b, l, w, c, h2⟩, _, ⟨s, h4⟩⟩ := open_task0 h
  subst h2 h4
  exact ⟨_, rfl, ⟨k, f, b, l, w, c, p, s⟩, h1⟩
def RlP (cs : List Value) : Prop := ∃ r : Rl, cs = r.c ∧ 0 ≤ r.w ∧ r.w ≤ 18446744073709551615
theorem open_rulesc (h : DataW.trod enc Tryz.prog w base spare held fuel 30 cs = some x) : ∃ z : List Value, cs = z ∧ RlP z := by
  obtain ⟨a, b, c, h1, h2, _, _⟩ := open_rules h
  exact ⟨_, rfl, ⟨a, b, c⟩, h1, h2.1, h2.2⟩
end
end Go.Proofs.YtocaabnbmcpjmaaGreatDoor
/- HelperNone: the walk. -/
namespace Go.Proofs.YtocaabnbmcpjmaaGreatDoor
open Go.RowKit Go.MapKept
attribute [local irreducible] Go.Calls Go.Exit.then Go.Exit.inBlock Go.bodyPost Go.Code.wp Go.wpList takeL recordL hashL recL allL
theorem nth_Ij {φ : Prop} (h : φ := by (first | rfl | first | rfl | exact Me.ne _ | exact mcs_5 | exact mcs_4)) : φ := h
theorem mid_Ij {φ : Prop} (h : φ := by (first | first | exact Mid.all | exact Mid.all | exact Mid.head)) : φ := h
theorem sz_Ij {φ : Prop} (h : φ := by (first | rfl | ((try simp only [Su.len, S23.len, En.len, Me.len, moC_len, enC_len, bytes_length, Id.len]); (first | done | rfl); first | done | fail))) : φ := h
theorem one_Ij {φ : Prop} (h : φ := by (first | assumption | exact first | exact Me.one _ | exact mcs_one | exact Rl.one _ | exact Ta.one _ | exact cc_one _ _ _ _ _ _ | (simp only [List.mem_cons, List.not_mem_nil, or_false, forall_eq_or_imp, forall_eq]; decide) | exact one_bytes _ | (intro v hv; (repeat (rcases List.mem_cons.1 hv with rfl | hv; rfl)); cases hv))) : φ := h
theorem set_Ij {φ : Prop} (h : φ := by (first | (fail) | ((repeat (first | exact SetAt.here | apply SetAt.there)); first | done | fail))) : φ := h
theorem cl_Ij {φ : Prop} (h : φ := by first | rfl | exact .t | exact .f | exact .t (by omega) | exact .f (by omega) | exact .u | exact .i (by (first | exact .t (by omega) | exact .f (by omega) | exact .u | exact .i (by omega) | exact .v (by omega) | exact .b (by omega) | exact .w | rfl | omega)) | exact .v (by omega) | exact .b (by omega) | exact .q (by omega) | exact .w | exact .b (by exact at_) rfl (by exact nth_Ij) | exact .w (by exact at_) rfl rfl (by exact sz_Ij) | exact .s (by exact at_) (by exact mid_Ij) rfl rfl (by exact sz_Ij) | exact .z rfl rfl ⟨by kernel_rfl⟩ | exact .b rfl rfl ⟨by kernel_rfl⟩ | exact .a rfl rfl ⟨by kernel_rfl⟩ | exact .o rfl | exact .s | exact .n | exact .p rfl | exact .q rfl | exact .c rfl | exact .d rfl | exact .n rfl rfl (by omega) | exact .a rfl rfl (by omega) | exact .p rfl rfl (by omega) (by omega) | exact .y rfl rfl (by omega) (by omega) | exact .o (by exact at_) (by omega) rfl (by exact nth_Ij) | exact .m (by exact at_) (by omega) (by exact mid_Ij) rfl rfl (by exact sz_Ij) | exact .mlen (by exact at_) rfl | exact .t (by exact at_) rfl rfl (by first | exact True.intro | rfl) (by assumption) | exact .f (by exact at_) rfl rfl (by first | exact True.intro | rfl) (by assumption) rfl | exact .t1 (by exact at_) rfl rfl (by first | exact True.intro | rfl) (by assumption) | exact .f1 (by exact at_) rfl rfl (by first | exact True.intro | rfl) (by assumption) rfl | exact .tk (by exact at_) rfl (by assumption) (by assumption) | exact .fk (by exact at_) rfl (by assumption) (by assumption) rfl | exact .tk1 (by exact at_) rfl (by assumption) (by assumption) | exact .fk1 (by exact at_) rfl (by assumption) (by assumption) rfl | exact .r rfl rfl (by omega) (by omega) (by exact nth_Ij) rfl | exact .s rfl (by omega) (by assumption) | exact at_ | assumption | exact .r rfl rfl | exact .h rfl rfl rfl (by omega) | exact .l rfl rfl rfl (by omega) (by omega) | exact .g rfl rfl rfl rfl (by omega) (by omega) | exact .h rfl rfl (toN_ (by omega)) (by omega) | exact .l rfl rfl (toN_ (by omega)) (by omega) (by omega) | exact .g rfl rfl (toN_ (by omega)) (toN_ (by omega)) (by omega) (by omega) | exact .o (by decide) | exact .f (by decide) | exact .n (by omega) (by first | decide | (show _ ≤ ((64 : Nat) : Int); omega)) | (constructor; (repeat (first | exact .t (by omega) | exact .f (by omega) | exact .u | exact .i (by omega) | exact .v (by omega) | exact .b (by omega) | exact .w | rfl | omega)); first | done | fail) | omega | (show _ ≤ ((64 : Nat) : Int); omega)) : φ := h
theorem pv_Ij {φ : Prop} (h : φ := by constructor; (repeat exact cl_Ij); first | done | fail) : φ := h
theorem su_Ij {φ ψ : Prop} (k : ψ) (h : Hide ψ → φ := by (intro k; (first | refine sl_pu (PuI.sep (by exact pv_Ij)) rfl ?_ | refine sl_yes rfl rfl ?_ | refine sl_no rfl rfl rfl ?_ | refine sl_off rfl rfl rfl ?_ | (fail)); exact k.out)) : φ := h ⟨k⟩
theorem sto_Ij {φ ψ : Prop} (k : ψ) (h : Hide ψ → φ := by (intro k; (first | refine sl_store rfl (by exact pick_) rfl rfl (by kernel_rfl) (by exact set_Ij) ?_ | refine sl_store_whole rfl (by exact pick_) rfl (by exact sz_Ij) (by exact sz_Ij) (by exact one_Ij) ?_); exact k.out)) : φ := h ⟨k⟩
theorem go_Ij {φ ψ : Prop} (k : ψ) (h : Hide ψ → φ := by (intro k; (repeat (first | refine su_Ij ?_ | refine so_ ?_ | refine sto_Ij ?_)); exact k.out)) : φ := h ⟨k⟩
set_option maxRecDepth 100000 in
theorem hrecv_nil {K : List Fa} {now : Int} {m : Me} :
    Fn Tryz.prog 15 #[.pointer none, .int .u64 now, m.v] K (Ret (fun _ : Unit => True) (fun _ => .tuple #[.agg (moC 0 0 none 0 0).toArray, .int .i64 1]) (fun _ => K)) := by
  refine fn_enter Tryz.func15 rfl _ Tryz.ntmps15 (by simp) [(0, .pointer none), (1, .int .u64 now), (2, m.v)] (args_of (by simp)) ?_
  refine go_Ij ?_
  refine sl_box rfl rfl rfl ?_; intro g5
  refine go_Ij ?_
  refine sl_alloc rfl rfl rfl ?_; intro g6
  refine go_Ij ?_
  refine sl_pu (pu_build (v := .agg (moC 0 0 none 0 0).toArray) rfl (fun W => by kernel_rfl)) rfl ?_
  refine go_Ij ?_
  exact se_ret_ct () trivial rfl rfl (by exact at_) rfl rfl (by exact sz_Ij) rfl rfl (by exact sub_)
set_option maxRecDepth 100000 in
theorem hstore_nil {K : List Fa} :
    Fn Tryz.prog 17 #[.pointer none] K (Ret (fun _ : Unit => True) (fun _ => .pointer none) (fun _ => K)) := by
  refine fn_enter Tryz.func17 rfl _ Tryz.ntmps17 (by simp) [(0, .pointer none)] (args_of (by simp)) ?_
  refine go_Ij ?_
  exact se_ret1 () trivial rfl rfl (by exact sub_)
theorem rErr3 (r : Rl) (t : Ta) : rErr r t = 0 ∨ (t.err ≠ 0 ∧ rErr r t ≠ 0) ∨ (rErr r t = 6 ∧ t.err = 0) := by
  unfold rErr
  by_cases h : t.err ≠ 0
  · rw [if_pos h]
    exact .inr (.inl ⟨h, h⟩)
  · rw [if_neg h]
    have h0 : t.err = 0 := by omega
    split
    · exact .inr (.inr ⟨rfl, h0⟩)
    · split
      · exact .inr (.inr ⟨rfl, h0⟩)
      · exact .inl rfl
set_option maxRecDepth 100000 in
set_option maxHeartbeats 8000000 in
theorem hnone_walk {K : List Fa} {m : Me} {now : Int} {r : Rl} {t : Ta} :
    Fn Tryz.prog 5 #[m.v, .int .u64 now, .agg r.c.toArray, .agg t.c.toArray] K (Ret (fun _ : Unit => True) (fun _ => .bool true) (fun _ => K)) := by
  refine fn_enter Tryz.func5 rfl _ Tryz.ntmps5 (by simp) [(0, m.v), (1, .int .u64 now), (2, .agg r.c.toArray), (3, .agg t.c.toArray)] (args_of (by simp)) ?_
  refine go_Ij ?_
  refine sl_box rfl rfl rfl ?_; intro g4
  refine go_Ij ?_
  refine sl_box rfl rfl rfl ?_; intro g6
  refine go_Ij ?_
  refine sl_box rfl rfl rfl ?_; intro g7
  refine go_Ij ?_
  refine sl_call rfl rfl (by kernel_rfl) rfl (by exact sub_) awake23 ?_; rintro _ -
  by_cases hl : (10 : Int) < m.es.length
  · refine go_Ij ?_
    exact se_ret1 () trivial rfl rfl (by exact sub_)
  refine go_Ij ?_
  refine sl_call rfl rfl (by kernel_rfl) rfl (by exact sub_) hrecv_nil ?_; rintro _ -
  refine go_Ij ?_
  refine sl_alloc rfl rfl rfl ?_; intro g10
  refine go_Ij ?_
  refine sl_pu (pu_build (v := .agg (sCells 0 0 0 0 0 0).toArray) rfl (fun W => by kernel_rfl)) rfl ?_
  refine sl_call rfl rfl (by kernel_rfl) rfl (by exact sub_) (scirc_ok (by decide) (by decide) (by decide) (by decide) (by decide) (by decide)) ?_; rintro _ -
  refine go_Ij ?_
  refine sl_alloc rfl rfl rfl ?_; intro g12
  refine go_Ij ?_
  refine sl_call rfl rfl (by kernel_rfl) rfl (by exact sub_) hstore_nil ?_; rintro _ -
  refine go_Ij ?_
  refine sl_call rfl rfl (by kernel_rfl) rfl (by exact sub_) (ccheck_ok 1 1 0 0 0 0) ?_; rintro _ -
  rw [show ciErr 1 1 0 0 0 0 = 0 by decide]
  refine go_Ij ?_
  refine sl_call rfl rfl (by kernel_rfl) rfl (by exact sub_) (rcheck_ok (r := r) (t := t)) ?_; rintro _ -
  rcases rErr3 r t with h | ⟨h1, h2⟩ | ⟨h1, h2⟩
  · rw [h]
    refine go_Ij ?_
    exact se_ret1 () trivial rfl rfl (by exact sub_)
  · refine go_Ij ?_
    refine sl_call rfl rfl (by kernel_rfl) rfl (by exact sub_) (tcheck_ok t.kd t.fl t.bt t.ln t.wt t.ch t.np t.tag) ?_; rintro _ -
    have h3 : tErr t.kd t.fl t.bt t.ln t.wt t.ch t.np t.tag ≠ 0 := h1
    generalize tErr t.kd t.fl t.bt t.ln t.wt t.ch t.np t.tag = e at h3 ⊢
    refine go_Ij ?_
    exact se_ret1 () trivial rfl rfl (by exact sub_)
  · rw [h1]
    refine go_Ij ?_
    refine sl_call rfl rfl (by kernel_rfl) rfl (by exact sub_) (tcheck_ok t.kd t.fl t.bt t.ln t.wt t.ch t.np t.tag) ?_; rintro _ -
    rw [show tErr t.kd t.fl t.bt t.ln t.wt t.ch t.np t.tag = 0 from h2]
    refine go_Ij ?_
    refine sl_call rfl rfl (by kernel_rfl) rfl (by exact sub_) (rcheck_ok (r := r) (t := t)) ?_; rintro _ -
    rw [h1]
    refine go_Ij ?_
    exact se_ret1 () trivial rfl rfl (by exact sub_)
end Go.Proofs.YtocaabnbmcpjmaaGreatDoor
