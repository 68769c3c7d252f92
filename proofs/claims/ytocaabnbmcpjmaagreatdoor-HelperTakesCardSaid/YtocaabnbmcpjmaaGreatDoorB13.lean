/- Several texts of one claim, one behind the other (Jr, Js, Ju, Jl). -/
import Derived.Test.YtocaabnbmcpjmaaGreatDoorB12
set_option linter.unusedVariables false
set_option linter.unusedSimpArgs false
/- A record out of a journal: record. -/
namespace Go.Proofs.YtocaabnbmcpjmaaGreatDoor
open Go.RowKit
attribute [local irreducible] Go.Calls Go.Exit.then Go.Exit.inBlock Go.bodyPost Go.Code.wp Go.wpList takeL
theorem saysL_some {d : List Int} {k f : Nat} {p : List Int} (h : saysL d k = some (f, p)) (hb : IsBytes d) : p.length ≤ 48 ∧ f < 16777216 ∧ IsBytes p := by
  unfold saysL at h
  split at h
  · cases h
  split at h
  · cases h
  split at h
  · injection h with h
    injection h with h1 h2
    subst h1 h2
    refine ⟨by rw [List.length_take, List.length_take]; omega, ?_, ((hb.drop 8).take 48).take _⟩
    have := leV_lt ((hb.drop 3).take 3)
    have h3 : ((d.drop 3).take 3).length ≤ 3 := by rw [List.length_take]; omega
    have h4 : (2 : Int) ^ (8 * ((d.drop 3).take 3).length) ≤ 2 ^ 24 := by
      have h5 : (2 : Nat) ^ (8 * ((d.drop 3).take 3).length) ≤ 2 ^ 24 := Nat.pow_le_pow_right (by decide) (by omega)
      have h6 : ((2 ^ (8 * ((d.drop 3).take 3).length) : Nat) : Int) ≤ ((2 ^ 24 : Nat) : Int) := by omega
      simpa using h6
    omega
  · cases h
attribute [local semireducible] takeL in
theorem takeL_some {bs : List Int} {k f : Nat} {p : List Int} (h : takeL bs k = some (f, p)) (hb : IsBytes bs) : p.length ≤ 48 ∧ f < 16777216 ∧ IsBytes p ∧ (k + 1) * 64 ≤ bs.length := by
  unfold takeL at h
  split at h
  · cases h
  split at h
  · cases h
  obtain ⟨h1, h2, h3⟩ := saysL_some h (((hb.drop _).take _).drop _)
  exact ⟨h1, h2, h3, by omega⟩
theorem build_jc (f : Int) (A : Option Addr) (n c : Nat) (W : World) : (Instr.build 162 #[(0, .int .i64 f), (1, .slice A n c)]).run Tryz.prog W = .ok (.agg #[.int .i64 f, .slice A n c]) W := by kernel_rfl
theorem nth_Jr {φ : Prop} (h : φ := by (first | rfl | rfl)) : φ := h
theorem mid_Jr {φ : Prop} (h : φ := by (first | exact Mid.all | exact Mid.all | exact Mid.head)) : φ := h
theorem sz_Jr {φ : Prop} (h : φ := by (first | rfl | (rfl; first | done | fail))) : φ := h
theorem one_Jr {φ : Prop} (h : φ := by (first | assumption | exact first | exact jc_one | exact jz_one | exact one_bytes _ | (simp only [List.mem_cons, List.not_mem_nil, or_false, forall_eq_or_imp, forall_eq]; decide) | exact one_bytes _ | (intro v hv; (repeat (rcases List.mem_cons.1 hv with rfl | hv; rfl)); cases hv))) : φ := h
theorem set_Jr {φ : Prop} (h : φ := by (first | (fail) | ((repeat (first | exact SetAt.here | apply SetAt.there)); first | done | fail))) : φ := h
theorem cl_Jr {φ : Prop} (h : φ := by first | rfl | exact .t | exact .f | exact .t (by omega) | exact .f (by omega) | exact .u | exact .i (by (first | exact .t (by omega) | exact .f (by omega) | exact .u | exact .i (by omega) | exact .v (by omega) | exact .b (by omega) | exact .w | rfl | omega)) | exact .v (by omega) | exact .b (by omega) | exact .q (by omega) | exact .w | exact .b (by exact at_) rfl (by exact nth_Jr) | exact .w (by exact at_) rfl rfl (by exact sz_Jr) | exact .s (by exact at_) (by exact mid_Jr) rfl rfl (by exact sz_Jr) | exact .z rfl rfl ⟨by kernel_rfl⟩ | exact .b rfl rfl ⟨by kernel_rfl⟩ | exact .a rfl rfl ⟨by kernel_rfl⟩ | exact .o rfl | exact .s | exact .n | exact .p rfl | exact .q rfl | exact .c rfl | exact .d rfl | exact .n rfl rfl (by omega) | exact .a rfl rfl (by omega) | exact .p rfl rfl (by omega) (by omega) | exact .y rfl rfl (by omega) (by omega) | exact .o (by exact at_) (by omega) rfl (by exact nth_Jr) | exact .m (by exact at_) (by omega) (by exact mid_Jr) rfl rfl (by exact sz_Jr) | exact .mlen (by exact at_) rfl | exact .t (by exact at_) rfl rfl (by first | exact True.intro | rfl) (by assumption) | exact .f (by exact at_) rfl rfl (by first | exact True.intro | rfl) (by assumption) rfl | exact .t1 (by exact at_) rfl rfl (by first | exact True.intro | rfl) (by assumption) | exact .f1 (by exact at_) rfl rfl (by first | exact True.intro | rfl) (by assumption) rfl | exact .tk (by exact at_) rfl (by assumption) (by assumption) | exact .fk (by exact at_) rfl (by assumption) (by assumption) rfl | exact .tk1 (by exact at_) rfl (by assumption) (by assumption) | exact .fk1 (by exact at_) rfl (by assumption) (by assumption) rfl | exact .r rfl rfl (by omega) (by omega) (by exact nth_Jr) rfl | exact .s rfl (by omega) (by assumption) | exact at_ | assumption | exact .r rfl rfl | exact .h rfl rfl rfl (by omega) | exact .l rfl rfl rfl (by omega) (by omega) | exact .g rfl rfl rfl rfl (by omega) (by omega) | exact .h rfl rfl (toN_ (by omega)) (by omega) | exact .l rfl rfl (toN_ (by omega)) (by omega) (by omega) | exact .g rfl rfl (toN_ (by omega)) (toN_ (by omega)) (by omega) (by omega) | exact .o (by decide) | exact .f (by decide) | exact .n (by omega) (by first | decide | (show _ ≤ ((64 : Nat) : Int); omega)) | (constructor; (repeat (first | exact .t (by omega) | exact .f (by omega) | exact .u | exact .i (by omega) | exact .v (by omega) | exact .b (by omega) | exact .w | rfl | omega)); first | done | fail) | omega | (show _ ≤ ((64 : Nat) : Int); omega)) : φ := h
theorem pv_Jr {φ : Prop} (h : φ := by constructor; (repeat exact cl_Jr); first | done | fail) : φ := h
theorem su_Jr {φ ψ : Prop} (k : ψ) (h : Hide ψ → φ := by (intro k; (first | refine sl_pu (PuI.sep (by exact pv_Jr)) rfl ?_ | refine sl_yes rfl rfl ?_ | refine sl_no rfl rfl rfl ?_ | refine sl_off rfl rfl rfl ?_ | (fail)); exact k.out)) : φ := h ⟨k⟩
theorem rq_Jr {φ ψ : Prop} (k : ψ) (h : Hide ψ → φ := by (intro k; (first | refine wq_pu (PuI.sep (by exact pv_Jr)) rfl ?_ | refine wq_yes rfl rfl ?_ | refine wq_no rfl rfl rfl ?_ | refine wq_off rfl rfl rfl ?_ | (fail)); exact k.out)) : φ := h ⟨k⟩
theorem sto_Jr {φ ψ : Prop} (k : ψ) (h : Hide ψ → φ := by (intro k; (first | refine sl_store rfl (by exact pick_) rfl rfl (by kernel_rfl) (by exact set_Jr) ?_ | refine sl_store_whole rfl (by exact pick_) rfl (by exact sz_Jr) (by exact sz_Jr) (by exact one_Jr) ?_); exact k.out)) : φ := h ⟨k⟩
theorem go_Jr {φ ψ : Prop} (k : ψ) (h : Hide ψ → φ := by (intro k; (repeat (first | refine su_Jr ?_ | refine so_ ?_ | refine sto_Jr ?_)); exact k.out)) : φ := h ⟨k⟩
set_option maxRecDepth 100000 in
set_option maxHeartbeats 1000000 in
theorem cells_ok {K : List Fa} {n : Nat} (hn : n ≤ 1000000000000000) :
    Fn Tryz.prog 100 #[.int .i64 n] K (Ret (fun _ : Unit => True) (fun _ => .int .i64 (manyL n)) (fun _ => K)) := by
  refine fn_enter Tryz.func100 rfl _ Tryz.ntmps100 (by simp) [(0, .int .i64 n)] (args_of (by simp)) ?_
  have hm : (if ((n : Int) + 64 - 16 - 1) / 48 < 1 then (1 : Int) else ((n : Int) + 64 - 16 - 1) / 48) = manyL n := by
    unfold manyL
    split <;> omega
  refine go_Jr ?_
  rw [hm]
  refine go_Jr ?_
  exact se_ret1 () trivial rfl rfl (by exact sub_)
def RcA (K : List Fa) : Option (List Int × Nat) → Ending → World → Prop
  | some (out, m) => Ret (fun q : Option Addr × Nat × Nat => out.length ≤ q.2.1 ∧ q.2.1 ≤ maxLen) (fun q => .tuple #[.slice q.1 out.length q.2.1, .int .i64 m, .bool true]) (fun q => u8o q.1 q.2.2 out :: K)
  | none => Ret (fun _ : Unit => True) (fun _ => .tuple #[.slice none 0 0, .int .i64 0, .bool false]) (fun _ => K)
theorem RcA_no {K : List Fa} : RcA K none = Ret (fun _ : Unit => True) (fun _ => .tuple #[.slice none 0 0, .int .i64 0, .bool false]) (fun _ => K) := rfl
theorem RcA_yes {K : List Fa} {out : List Int} {m : Nat} : RcA K (some (out, m)) = Ret (fun q : Option Addr × Nat × Nat => out.length ≤ q.2.1 ∧ q.2.1 ≤ maxLen) (fun q => .tuple #[.slice q.1 out.length q.2.1, .int .i64 m, .bool true]) (fun q => u8o q.1 q.2.2 out :: K) := rfl
structure Jg where
  i : Nat
  out : List Int
  A : Option Addr
  c : Nat
  d : Nat
set_option maxRecDepth 100000 in
set_option maxHeartbeats 4000000 in
theorem record_ok {K : List Fa} {A : Option Addr} {n c k : Nat} {bs : List Int} (h : Rd K A n c bs) (hk : k ≤ 100000000000) :
    Fn Tryz.prog 74 #[.slice A n c, .int .i64 k] K (RcA K (recordL bs k)) := by
  refine fn_enter Tryz.func74 rfl _ Tryz.ntmps74 (by simp) [(0, .slice A n c), (1, .int .i64 k)] (args_of (by simp)) ?_
  have hle := h.le
  have hbig := h.big
  have hlen := h.len
  have htk := take_ok h (k := k) (by omega)
  refine go_Jr ?_
  cases ht : takeL bs k with
  | none =>
    rw [show recordL bs k = none from by unfold recordL; rw [ht], RcA_no]
    rw [ht, TkA_no] at htk
    refine sl_call rfl rfl (by kernel_rfl) rfl (by exact sub_) htk ?_
    rintro _ -
    refine go_Jr ?_
    refine sl_alloc rfl rfl rfl ?_; intro g7
    refine go_Jr ?_
    refine sd_drawn (fun W => AllP W [blk g7 162 jz]) (fun _ => true) (by kernel_rfl) 8 rfl ?_
    refine sd_yes2 0 rfl (by exact gd_) (by kernel_rfl) (by kernel_rfl) (by exact nop_) (PuI.all (by exact pv_Jr)) rfl (fun w hw => all_ hw) ?_
    refine sd_yes2 1 rfl (by exact gd_) (by kernel_rfl) (by kernel_rfl) (by exact nop_) (PuI.all (by exact pv_Jr)) rfl (fun w hw => all_ hw) ?_
    refine sd_yes2 2 rfl (by exact gd_) (by kernel_rfl) (by kernel_rfl) (by exact nop_) (PuI.all (by exact pv_Jr)) rfl (fun w hw => all_ hw) ?_
    first | refine sd_yes2 3 rfl (by exact gd_) (by kernel_rfl) (by kernel_rfl) (by exact nop_) (PuI.all (by exact pv_Jr)) rfl (fun w hw => all_ hw) ?_ | refine sd_off2 3 rfl (by exact gd_) (by kernel_rfl) (by kernel_rfl) (by exact nop_) rfl (fun w hw => all_ hw) ?_ | refine sd_off3 3 rfl rfl rfl (by kernel_rfl) (by kernel_rfl) (by exact nop_) rfl (fun w hw => all_ hw) ?_
    first | refine sd_yes2 4 rfl (by exact gd_) (by kernel_rfl) (by kernel_rfl) (by exact nop_) (PuI.all (by exact pv_Jr)) rfl (fun w hw => all_ hw) ?_ | refine sd_off2 4 rfl (by exact gd_) (by kernel_rfl) (by kernel_rfl) (by exact nop_) rfl (fun w hw => all_ hw) ?_ | refine sd_off3 4 rfl rfl rfl (by kernel_rfl) (by kernel_rfl) (by exact nop_) rfl (fun w hw => all_ hw) ?_
    refine sd_one 5 (by kernel_rfl) (sa_sl 5 rfl ?_)
    repeat refine su_Jr ?_
    refine sl_nil ?_
    refine se_sd (fun _ w hw => all_ hw) ?_
    first | refine sd_yes2 6 rfl (by exact gd_) (by kernel_rfl) (by kernel_rfl) (by exact nop_) (PuI.all (by exact pv_Jr)) rfl (fun w hw => all_ hw) ?_ | refine sd_off2 6 rfl (by exact gd_) (by kernel_rfl) (by kernel_rfl) (by exact nop_) rfl (fun w hw => all_ hw) ?_ | refine sd_off3 6 rfl rfl rfl (by kernel_rfl) (by kernel_rfl) (by exact nop_) rfl (fun w hw => all_ hw) ?_
    refine sd_yes2 7 rfl (by exact gd_) (by kernel_rfl) (by kernel_rfl) (by exact nop_) (PuI.all (by exact pv_Jr)) rfl (fun w hw => all_ hw) ?_
    refine sd_done (by kernel_rfl) ?_
    refine go_Jr ?_
    exact se_ret3 () trivial rfl rfl rfl rfl rfl (by exact sub_)
  | some fp =>
    obtain ⟨f, p⟩ := fp
    obtain ⟨hp1, hp2, hp3, hp4⟩ := takeL_some ht h.okb
    rw [ht, TkA_yes] at htk
    refine sl_call rfl rfl (by kernel_rfl) rfl (by exact sub_) htk ?_
    rintro ⟨P, cp⟩ -
    refine go_Jr ?_
    refine sl_alloc rfl rfl rfl ?_; intro g7
    refine go_Jr ?_
    by_cases hf : ¬ f < 1366
    · rw [show recordL bs k = none from by unfold recordL; rw [ht]; exact if_neg hf, RcA_no]
      refine sd_drawn (fun W => AllP W [blk g7 162 [.int .i64 f, .slice P p.length cp]]) (fun _ => true) (by kernel_rfl) 8 rfl ?_
      refine sd_yes2 0 rfl (by exact gd_) (by kernel_rfl) (by kernel_rfl) (by exact nop_) (PuI.all (by exact pv_Jr)) rfl (fun w hw => all_ hw) ?_
      refine sd_yes2 1 rfl (by exact gd_) (by kernel_rfl) (by kernel_rfl) (by exact nop_) (PuI.all (by exact pv_Jr)) rfl (fun w hw => all_ hw) ?_
      refine sd_yes2 2 rfl (by exact gd_) (by kernel_rfl) (by kernel_rfl) (by exact nop_) (PuI.all (by exact pv_Jr)) rfl (fun w hw => all_ hw) ?_
      first | refine sd_yes2 3 rfl (by exact gd_) (by kernel_rfl) (by kernel_rfl) (by exact nop_) (PuI.all (by exact pv_Jr)) rfl (fun w hw => all_ hw) ?_ | refine sd_off2 3 rfl (by exact gd_) (by kernel_rfl) (by kernel_rfl) (by exact nop_) rfl (fun w hw => all_ hw) ?_ | refine sd_off3 3 rfl rfl rfl (by kernel_rfl) (by kernel_rfl) (by exact nop_) rfl (fun w hw => all_ hw) ?_
      first | refine sd_yes2 4 rfl (by exact gd_) (by kernel_rfl) (by kernel_rfl) (by exact nop_) (PuI.all (by exact pv_Jr)) rfl (fun w hw => all_ hw) ?_ | refine sd_off2 4 rfl (by exact gd_) (by kernel_rfl) (by kernel_rfl) (by exact nop_) rfl (fun w hw => all_ hw) ?_ | refine sd_off3 4 rfl rfl rfl (by kernel_rfl) (by kernel_rfl) (by exact nop_) rfl (fun w hw => all_ hw) ?_
      refine sd_one 5 (by kernel_rfl) (sa_sl 5 rfl ?_)
      repeat refine su_Jr ?_
      refine sl_call rfl rfl (by kernel_rfl) rfl Sub.refl (cells_ok (n := 65536) (by decide)) ?_
      rintro _ -
      rw [show ((manyL 65536 : Nat) : Int) = 1366 from rfl]
      refine sl_nil ?_
      refine se_sd (fun _ w hw => all_ hw) ?_
      first | refine sd_yes2 6 rfl (by exact gd_) (by kernel_rfl) (by kernel_rfl) (by exact nop_) (PuI.all (by exact pv_Jr)) rfl (fun w hw => all_ hw) ?_ | refine sd_off2 6 rfl (by exact gd_) (by kernel_rfl) (by kernel_rfl) (by exact nop_) rfl (fun w hw => all_ hw) ?_ | refine sd_off3 6 rfl rfl rfl (by kernel_rfl) (by kernel_rfl) (by exact nop_) rfl (fun w hw => all_ hw) ?_
      refine sd_yes2 7 rfl (by exact gd_) (by kernel_rfl) (by kernel_rfl) (by exact nop_) (PuI.all (by exact pv_Jr)) rfl (fun w hw => all_ hw) ?_
      refine sd_done (by kernel_rfl) ?_
      refine go_Jr ?_
      exact se_ret3 () trivial rfl rfl rfl rfl rfl (by exact sub_)
    replace hf := Classical.not_not.1 hf
    have hX : recordL bs k = (goL bs k f 0 p).map fun out => (out, f + 1) := by unfold recordL; rw [ht]; exact if_pos hf
    generalize recordL bs k = X at hX ⊢
    refine sc_join (fun _ : Unit => [(0, .slice A n c), (1, .int .i64 k), (7, .pointer (some ⟨g7, 0, none⟩)), (27, .bool false)]) (fun _ => blk g7 162 [.int .i64 f, .slice P p.length cp] :: u8o P cp p :: K) (fun _ => True) ?_ ?_
    · refine sd_drawn (fun W => AllP W [blk g7 162 [.int .i64 f, .slice P p.length cp]]) (fun _ => true) (by kernel_rfl) 8 rfl ?_
      refine sd_yes2 0 rfl (by exact gd_) (by kernel_rfl) (by kernel_rfl) (by exact nop_) (PuI.all (by exact pv_Jr)) rfl (fun w hw => all_ hw) ?_
      refine sd_yes2 1 rfl (by exact gd_) (by kernel_rfl) (by kernel_rfl) (by exact nop_) (PuI.all (by exact pv_Jr)) rfl (fun w hw => all_ hw) ?_
      refine sd_yes2 2 rfl (by exact gd_) (by kernel_rfl) (by kernel_rfl) (by exact nop_) (PuI.all (by exact pv_Jr)) rfl (fun w hw => all_ hw) ?_
      first | refine sd_yes2 3 rfl (by exact gd_) (by kernel_rfl) (by kernel_rfl) (by exact nop_) (PuI.all (by exact pv_Jr)) rfl (fun w hw => all_ hw) ?_ | refine sd_off2 3 rfl (by exact gd_) (by kernel_rfl) (by kernel_rfl) (by exact nop_) rfl (fun w hw => all_ hw) ?_ | refine sd_off3 3 rfl rfl rfl (by kernel_rfl) (by kernel_rfl) (by exact nop_) rfl (fun w hw => all_ hw) ?_
      first | refine sd_yes2 4 rfl (by exact gd_) (by kernel_rfl) (by kernel_rfl) (by exact nop_) (PuI.all (by exact pv_Jr)) rfl (fun w hw => all_ hw) ?_ | refine sd_off2 4 rfl (by exact gd_) (by kernel_rfl) (by kernel_rfl) (by exact nop_) rfl (fun w hw => all_ hw) ?_ | refine sd_off3 4 rfl rfl rfl (by kernel_rfl) (by kernel_rfl) (by exact nop_) rfl (fun w hw => all_ hw) ?_
      refine sd_one 5 (by kernel_rfl) (sa_sl 5 rfl ?_)
      repeat refine su_Jr ?_
      refine sl_call rfl rfl (by kernel_rfl) rfl Sub.refl (cells_ok (n := 65536) (by decide)) ?_
      rintro _ -
      rw [show ((manyL 65536 : Nat) : Int) = 1366 from rfl]
      refine sl_nil ?_
      refine se_sd (fun _ w hw => all_ hw) ?_
      first | refine sd_yes2 6 rfl (by exact gd_) (by kernel_rfl) (by kernel_rfl) (by exact nop_) (PuI.all (by exact pv_Jr)) rfl (fun w hw => all_ hw) ?_ | refine sd_off2 6 rfl (by exact gd_) (by kernel_rfl) (by kernel_rfl) (by exact nop_) rfl (fun w hw => all_ hw) ?_ | refine sd_off3 6 rfl rfl rfl (by kernel_rfl) (by kernel_rfl) (by exact nop_) rfl (fun w hw => all_ hw) ?_
      refine sd_yes2 7 rfl (by exact gd_) (by kernel_rfl) (by kernel_rfl) (by exact nop_) (PuI.all (by exact pv_Jr)) rfl (fun w hw => all_ hw) ?_
      refine sd_done (by kernel_rfl) ?_
      exact se_mid () (by exact has_) (by exact sub_) trivial
    rintro _ -
    refine sc_know (fun w hw => (own_len (e := 5) (size := 1) (A := P) hw (by exact at_)).2) ?_
    rintro ⟨l1, l2⟩
    refine go_Jr ?_
    refine sc_for (fun q : Jg => [(0, .slice A n c), (1, .int .i64 k), (7, .pointer (some ⟨g7, 0, none⟩)), (9, .slice q.A q.out.length q.c), (31, .int .i64 f), (32, .int .i64 q.i)]) (fun q => u8o q.A q.d q.out :: blk g7 162 [.int .i64 f, .slice P p.length cp] :: K) (fun q => q.i ≤ f ∧ X = (goL bs k (f - q.i) q.i q.out).map (fun out => (out, f + 1)) ∧ (q.out.length ≤ q.c ∧ q.c ≤ maxLen) ∧ q.out.length ≤ 48 * (q.i + 1)) (fun q => f - q.i) ⟨0, p, P, cp, cp⟩ (by exact has_) (by exact sub_) ⟨Nat.zero_le _, hX, ⟨l1, l2⟩, by show p.length ≤ 48 * (0 + 1); omega⟩ ?_
    rintro ⟨i, out, B, cb, db⟩ ⟨hi, hgo, hcb, hob⟩
    replace hi : i ≤ f := hi
    replace hgo : X = (goL bs k (f - i) i out).map (fun out => (out, f + 1)) := hgo
    replace hcb : out.length ≤ cb ∧ cb ≤ maxLen := hcb
    have hcb1 := hcb.1
    replace hob : out.length ≤ 48 * (i + 1) := hob
    dsimp only
    clear hX
    by_cases hlt : i < f
    · obtain ⟨left, hleft⟩ : ∃ left, f - i = left + 1 := ⟨f - i - 1, by omega⟩
      rw [hleft] at hgo
      refine go_Jr ?_
      refine sl_pu (pu_build (v := .agg #[.int .i64 (f - i), .slice B out.length cb]) rfl (build_jc _ _ _ _)) rfl ?_
      refine go_Jr ?_
      refine sl_alloc rfl rfl rfl ?_; intro g11
      refine go_Jr ?_
      rw [show (k : Int) + 1 + i = ((k + 1 + i : Nat) : Int) by omega]
      have htk2 := take_ok (h.mono (Z' := blk g11 162 [.int .i64 (f - i), .slice B out.length cb] :: u8o B db out :: blk g7 162 [.int .i64 f, .slice P p.length cp] :: K) (by exact sub_)) (k := k + 1 + i) (by omega)
      cases ht2 : takeL bs (k + 1 + i) with
      | none =>
        rw [show X = none from by rw [hgo, goL, ht2]; rfl, RcA_no]
        rw [ht2, TkA_no] at htk2
        refine sl_call rfl rfl (by kernel_rfl) rfl (by exact sub_) htk2 ?_
        rintro _ -
        refine go_Jr ?_
        refine sl_alloc rfl rfl rfl ?_; intro g12
        refine go_Jr ?_
        exact se_ret3 () trivial rfl rfl rfl rfl rfl (by exact sub_)
      | some fp =>
        obtain ⟨f2, p2⟩ := fp
        obtain ⟨hq1, hq2, hq3, hq4⟩ := takeL_some ht2 h.okb
        rw [ht2, TkA_yes] at htk2
        refine sl_call rfl rfl (by kernel_rfl) rfl (by exact sub_) htk2 ?_
        rintro ⟨B2, cb2⟩ -
        by_cases hc1 : f2 ≠ left
        · rw [show X = none from by rw [hgo, goL, ht2]; simp only [hc1, false_and, if_false]; rfl, RcA_no]
          refine go_Jr ?_
          refine sl_alloc rfl rfl rfl ?_; intro g12
          refine go_Jr ?_
          exact se_ret3 () trivial rfl rfl rfl rfl rfl (by exact sub_)
        replace hc1 := Classical.not_not.1 hc1
        by_cases hc2 : out.length ≠ (i + 1) * 48
        · rw [show X = none from by rw [hgo, goL, ht2]; simp only [hc2, and_false, if_false]; rfl, RcA_no]
          refine go_Jr ?_
          refine sl_alloc rfl rfl rfl ?_; intro g12
          refine go_Jr ?_
          exact se_ret3 () trivial rfl rfl rfl rfl rfl (by exact sub_)
        replace hc2 := Classical.not_not.1 hc2
        rw [goL, ht2] at hgo
        simp only [hc1, hc2, and_self, if_true] at hgo
        rw [show left = f - (i + 1) by omega] at hgo
        refine go_Jr ?_
        refine sl_alloc rfl rfl rfl ?_; intro g12
        refine go_Jr ?_
        by_cases hp0 : p2.length = 0
        · obtain rfl : p2 = [] := List.eq_nil_of_length_eq_zero hp0
          rw [List.append_nil] at hgo
          refine sd_drawn (fun W => AllP W [blk g12 162 [.int .i64 f2, .slice B2 ([] : List Int).length cb2]]) (fun _ => true) (by kernel_rfl) 10 rfl ?_
          refine sd_yes2 0 rfl (by exact gd_) (by kernel_rfl) (by kernel_rfl) (by exact nop_) (PuI.all (by exact pv_Jr)) rfl (fun w hw => all_ hw) ?_
          refine sd_yes2 1 rfl (by exact gd_) (by kernel_rfl) (by kernel_rfl) (by exact nop_) (PuI.all (by exact pv_Jr)) rfl (fun w hw => all_ hw) ?_
          refine sd_yes2 2 rfl (by exact gd_) (by kernel_rfl) (by kernel_rfl) (by exact nop_) (PuI.all (by exact pv_Jr)) rfl (fun w hw => all_ hw) ?_
          refine sd_yes2 3 rfl (by exact gd_) (by kernel_rfl) (by kernel_rfl) (by exact nop_) (PuI.all (by exact pv_Jr)) rfl (fun w hw => all_ hw) ?_
          refine sd_yes2 4 rfl (by exact gd_) (by kernel_rfl) (by kernel_rfl) (by exact nop_) (PuI.all (by exact pv_Jr)) rfl (fun w hw => all_ hw) ?_
          refine sd_yes2 5 rfl (by exact gd_) (by kernel_rfl) (by kernel_rfl) (by exact nop_) (PuI.all (by exact pv_Jr)) rfl (fun w hw => all_ hw) ?_
          refine sd_yes2 6 rfl (by exact gd_) (by kernel_rfl) (by kernel_rfl) (by exact nop_) (PuI.all (by exact pv_Jr)) rfl (fun w hw => all_ hw) ?_
          refine sd_yes2 7 rfl (by exact gd_) (by kernel_rfl) (by kernel_rfl) (by exact nop_) (PuI.all (by exact pv_Jr)) rfl (fun w hw => all_ hw) ?_
          refine sd_one 8 (by kernel_rfl) (sa_sl 8 rfl ?_)
          refine sl_app_none rfl (by omega) rfl rfl Tryz.info5 rfl ?_
          refine sl_nil ?_
          refine se_sd (fun _ w hw => all_ hw) ?_
          refine sd_yes2 9 rfl (by exact gd_) (by kernel_rfl) (by kernel_rfl) (by exact nop_) (PuI.all (by exact pv_Jr)) rfl (fun w hw => all_ hw) ?_
          refine sd_done (by kernel_rfl) ?_
          refine go_Jr ?_
          exact se_round ⟨i + 1, out, B, out.length, db⟩ (by exact has_) (by exact sub_) ⟨hlt, hgo, ⟨Nat.le_refl _, Nat.le_trans hcb.1 hcb.2⟩, by show out.length ≤ 48 * (i + 1 + 1); omega⟩ (by show f - (i + 1) < f - i; omega)
        · refine sd_drawn (fun W => AllP W [blk g12 162 [.int .i64 f2, .slice B2 p2.length cb2]]) (fun _ => true) (by kernel_rfl) 10 rfl ?_
          refine sd_yes2 0 rfl (by exact gd_) (by kernel_rfl) (by kernel_rfl) (by exact nop_) (PuI.all (by exact pv_Jr)) rfl (fun w hw => all_ hw) ?_
          refine sd_yes2 1 rfl (by exact gd_) (by kernel_rfl) (by kernel_rfl) (by exact nop_) (PuI.all (by exact pv_Jr)) rfl (fun w hw => all_ hw) ?_
          refine sd_yes2 2 rfl (by exact gd_) (by kernel_rfl) (by kernel_rfl) (by exact nop_) (PuI.all (by exact pv_Jr)) rfl (fun w hw => all_ hw) ?_
          refine sd_yes2 3 rfl (by exact gd_) (by kernel_rfl) (by kernel_rfl) (by exact nop_) (PuI.all (by exact pv_Jr)) rfl (fun w hw => all_ hw) ?_
          refine sd_yes2 4 rfl (by exact gd_) (by kernel_rfl) (by kernel_rfl) (by exact nop_) (PuI.all (by exact pv_Jr)) rfl (fun w hw => all_ hw) ?_
          refine sd_yes2 5 rfl (by exact gd_) (by kernel_rfl) (by kernel_rfl) (by exact nop_) (PuI.all (by exact pv_Jr)) rfl (fun w hw => all_ hw) ?_
          refine sd_yes2 6 rfl (by exact gd_) (by kernel_rfl) (by kernel_rfl) (by exact nop_) (PuI.all (by exact pv_Jr)) rfl (fun w hw => all_ hw) ?_
          refine sd_yes2 7 rfl (by exact gd_) (by kernel_rfl) (by kernel_rfl) (by exact nop_) (PuI.all (by exact pv_Jr)) rfl (fun w hw => all_ hw) ?_
          refine sd_one 8 (by kernel_rfl) (sa_sl 8 rfl ?_)
          refine sl_app_full rfl (Vw.of_own (e := 5) (c := db) (by exact at_)) (by omega) rfl (Vw.of_own (e := 5) (c := cb2) (by exact at_)) (by omega) rfl Tryz.info5 (by decide) rfl (by unfold maxLen; omega) (by omega) ?_
          intro g3 c3
          rw [← bytes_app, ← List.length_append]
          refine sl_know (fun w hw => (own_len (e := 5) (size := 1) (A := some ⟨g3, 0, none⟩) hw (by exact at_)).2) ?_
          rintro ⟨l3, l4⟩
          refine sl_nil ?_
          refine se_sd (fun _ w hw => all_ hw) ?_
          refine sd_yes2 9 rfl (by exact gd_) (by kernel_rfl) (by kernel_rfl) (by exact nop_) (PuI.all (by exact pv_Jr)) rfl (fun w hw => all_ hw) ?_
          refine sd_done (by kernel_rfl) ?_
          refine go_Jr ?_
          exact se_round ⟨i + 1, out ++ p2, some ⟨g3, 0, none⟩, c3, c3⟩ (by exact has_) (by exact sub_) ⟨hlt, hgo, ⟨l3, l4⟩, by show (out ++ p2).length ≤ 48 * (i + 1 + 1); rw [List.length_append]; omega⟩ (by show f - (i + 1) < f - i; omega)
    obtain rfl : i = f := by omega
    rw [Nat.sub_self, goL] at hgo
    rw [show X = some (out, i + 1) from hgo, RcA_yes, show ((i + 1 : Nat) : Int) = (i : Int) + 1 by omega]
    refine go_Jr ?_
    ((refine sq_region (by kernel_rfl) (by kernel_rfl) ?_; (repeat refine rq_Jr ?_); refine sq_end ?_))
    refine go_Jr ?_
    exact se_ret3 (B, cb, db) hcb rfl rfl rfl rfl rfl (by exact sub_)
end Go.Proofs.YtocaabnbmcpjmaaGreatDoor
/- A journal read whole: Scan. -/
namespace Go.Proofs.YtocaabnbmcpjmaaGreatDoor
open Go.RowKit
attribute [local irreducible] Go.Calls Go.Exit.then Go.Exit.inBlock Go.bodyPost Go.Code.wp Go.wpList takeL recordL
/-- A slice of bytes in memory of its own. -/
structure Sx where
  A : Option Addr
  c : Nat
  d : Nat
  l : List Int
def Sx.v (s : Sx) : Value := .slice s.A s.l.length s.c
abbrev Sx.fa (s : Sx) : Fa := u8o s.A s.d s.l
def Sx.ok (s : Sx) : Prop := (s.l.length ≤ s.c ∧ s.c ≤ maxLen) ∧ s.l.length ≤ 1000000 ∧ IsBytes s.l
def sxO (xs : List Sx) : List Fa := xs.map Sx.fa
def sxV (xs : List Sx) : List Value := xs.map Sx.v
theorem star_snoc {f : Fa} {G K : List Fa} : Ent_ (f :: star G :: K) (star (G ++ [f]) :: K) := fun w hw => by
  refine star_in w ?_
  rw [List.append_assoc, List.singleton_append]
  refine (pick_mid G).back w ?_
  have h1 : Sep w (star G :: f :: K) := hw.sub (.cons (.there .here) (.cons .here .refl))
  exact (pick_mid G).out w ((pick_mid G).back w ((Ent_.trans star_out (fun w hw => hw) w h1 : Sep w (G ++ f :: K)) |> (pick_mid G).out w))
/-- The records one behind the other: those that n steps find. -/
def chainL (bs : List Int) : Nat → Option (Nat × List (List Int))
  | 0 => some (0, [])
  | n + 1 => match chainL bs n with
    | some (k, out) => match recordL bs k with
      | some (x, m) => some (k + m, out ++ [x])
      | none => none
    | none => none
theorem chain_none {bs : List Int} {n : Nat} (h : chainL bs n = none) : ∀ j, chainL bs (n + j) = none
  | 0 => h
  | j + 1 => by rw [← Nat.add_assoc, chainL, chain_none h j]
theorem chain_end {bs : List Int} {n n' k k' : Nat} {out out' : List (List Int)} (h : chainL bs n = some (k, out)) (h2 : recordL bs k = none) (h' : chainL bs n' = some (k', out')) (h2' : recordL bs k' = none) : k = k' ∧ out = out' := by
  have e1 : chainL bs (n + 1) = none := by rw [chainL, h]; simp only [h2]
  have e2 : chainL bs (n' + 1) = none := by rw [chainL, h']; simp only [h2']
  rcases Nat.lt_trichotomy n n' with hl | hl | hl
  · have := chain_none e1 (n' - (n + 1))
    rw [show n + 1 + (n' - (n + 1)) = n' by omega, h'] at this
    cases this
  · subst hl
    rw [h] at h'
    injection h' with h'
    injection h' with a b
    exact ⟨a, b⟩
  · have := chain_none e2 (n - (n' + 1))
    rw [show n' + 1 + (n - (n' + 1)) = n by omega, h] at this
    cases this
theorem goL_some {bs : List Int} {k : Nat} (hb : IsBytes bs) : ∀ {left i : Nat} {out r : List Int}, goL bs k left i out = some r → IsBytes out → out.length ≤ 48 * (i + 1) → (k + 1 + i) * 64 ≤ bs.length → IsBytes r ∧ r.length ≤ 48 * (i + left + 1) ∧ (k + 1 + i + left) * 64 ≤ bs.length
  | 0, i, out, r, h, h1, h2, h3 => by
    rw [goL] at h
    injection h with h
    subst h
    exact ⟨h1, h2, h3⟩
  | left + 1, i, out, r, h, h1, h2, h3 => by
    rw [goL] at h
    cases ht : takeL bs (k + 1 + i) with
    | none => rw [ht] at h; cases h
    | some fp =>
      obtain ⟨f, p⟩ := fp
      rw [ht] at h
      obtain ⟨t1, t2, t3, t4⟩ := takeL_some ht hb
      clear ht
      by_cases hc : f = left ∧ out.length = (i + 1) * 48
      · replace h : goL bs k left (i + 1) (out ++ p) = some r := (if_pos hc).symm.trans h
        have e1 : (out ++ p).length ≤ 48 * (i + 1 + 1) := by rw [List.length_append]; omega
        have e2 : (k + 1 + (i + 1)) * 64 ≤ bs.length := by omega
        have r := goL_some (bs := bs) (k := k) hb (left := left) (i := i + 1) (out := out ++ p) (r := r) h (IsBytes.app h1 t3) e1 e2
        obtain ⟨r1, r2, r3⟩ := r
        refine ⟨r1, ?_, ?_⟩
        · clear r3 e1 e2 t4 h3 h2 t1 t2 hc h; omega
        · clear r2 e1 e2 t4 h3 h2 t1 t2 hc h; omega
      · have h' : none = some r := (if_neg hc).symm.trans h
        cases h'
attribute [local semireducible] recordL in
theorem recordL_some {bs : List Int} {k m : Nat} {x : List Int} (h : recordL bs k = some (x, m)) (hb : IsBytes bs) : 1 ≤ m ∧ m ≤ 1366 ∧ (k + m) * 64 ≤ bs.length ∧ x.length ≤ 48 * m ∧ IsBytes x := by
  unfold recordL at h
  split at h
  · rename_i f p ht
    obtain ⟨t1, t2, t3, t4⟩ := takeL_some ht hb
    split at h
    · cases hg : goL bs k f 0 p with
      | none => rw [hg] at h; cases h
      | some r =>
        rw [hg] at h
        injection h with h
        injection h with a b
        subst a b
        obtain ⟨g1, g2, g3⟩ := goL_some hb hg t3 (by omega) (by omega)
        exact ⟨by omega, by omega, by omega, by omega, g1⟩
    · cases h
  · cases h
def tornB (bs : List Int) (a : Nat) : Nat → Bool
  | 0 => false
  | k + 1 => tornB bs a k || (takeL bs (a + k)).isNone
def haltB (bs : List Int) (a : Nat) : Nat → Bool
  | 0 => false
  | k + 1 => haltB bs a k || ((takeL bs (a + k)).isSome && tornB bs a k)
/-- How many cells, the last one cut or not. -/
def cutN (bs : List Int) : Nat := (bs.length + 63) / 64
end Go.Proofs.YtocaabnbmcpjmaaGreatDoor
/- A journal read whole: Scan's walk. -/
namespace Go.Proofs.YtocaabnbmcpjmaaGreatDoor
open Go.RowKit
attribute [local irreducible] Go.Calls Go.Exit.then Go.Exit.inBlock Go.bodyPost Go.Code.wp Go.wpList takeL recordL
/-- Records in memory: a row of slices, each with its bytes. -/
structure SRow where
  xs : List Sx
  R : Option Addr
  c : Nat
abbrev SRow.row (q : SRow) : Fa := own 60 1 q.R q.xs.length q.c (sxV q.xs)
abbrev SRow.st (q : SRow) : Fa := star (sxO q.xs)
def ScA (K : List Fa) (out : List (List Int)) (k : Nat) : Bool → Ending → World → Prop
  | true => Ret (fun _ : Unit => True) (fun _ => .tuple #[.slice none 0 0, .int .i64 0, .int .i64 23]) (fun _ => K)
  | false => Ret (fun q : SRow => q.xs.map Sx.l = out ∧ ∀ x ∈ q.xs, x.ok) (fun q => .tuple #[.slice q.R q.xs.length q.c, .int .i64 k, .int .i64 0]) (fun q => q.row :: q.st :: K)
theorem ScA_no {K : List Fa} {out : List (List Int)} {k : Nat} : ScA K out k true = Ret (fun _ : Unit => True) (fun _ => .tuple #[.slice none 0 0, .int .i64 0, .int .i64 23]) (fun _ => K) := rfl
theorem ScA_yes {K : List Fa} {out : List (List Int)} {k : Nat} : ScA K out k false = Ret (fun q : SRow => q.xs.map Sx.l = out ∧ ∀ x ∈ q.xs, x.ok) (fun q => .tuple #[.slice q.R q.xs.length q.c, .int .i64 k, .int .i64 0]) (fun q => q.row :: q.st :: K) := rfl
theorem halt_mono {bs : List Int} {a k : Nat} (h : haltB bs a k = true) : ∀ j, haltB bs a (k + j) = true
  | 0 => h
  | j + 1 => by rw [← Nat.add_assoc, haltB, halt_mono h j, Bool.true_or]
theorem sl1_one {A : Option Addr} {n c : Nat} : ∀ u ∈ [Value.slice A n c], u.oneCell' = true := by
  intro u hu
  rw [List.mem_singleton] at hu
  subst hu
  rfl
theorem nth_Ju {φ : Prop} (h : φ := by (first | rfl | rfl)) : φ := h
theorem mid_Ju {φ : Prop} (h : φ := by (first | exact Mid.all | exact Mid.all | exact Mid.head)) : φ := h
theorem sz_Ju {φ : Prop} (h : φ := by (first | rfl | (rfl; first | done | fail))) : φ := h
theorem one_Ju {φ : Prop} (h : φ := by (first | assumption | exact first | exact jc_one | exact jz_one | exact one_bytes _ | exact sl1_one | (simp only [List.mem_cons, List.not_mem_nil, or_false, forall_eq_or_imp, forall_eq]; decide) | exact one_bytes _ | (intro v hv; (repeat (rcases List.mem_cons.1 hv with rfl | hv; rfl)); cases hv))) : φ := h
theorem set_Ju {φ : Prop} (h : φ := by (first | (fail) | ((repeat (first | exact SetAt.here | apply SetAt.there)); first | done | fail))) : φ := h
theorem cl_Ju {φ : Prop} (h : φ := by first | rfl | exact .t | exact .f | exact .t (by omega) | exact .f (by omega) | exact .u | exact .i (by (first | exact .t (by omega) | exact .f (by omega) | exact .u | exact .i (by omega) | exact .v (by omega) | exact .b (by omega) | exact .w | rfl | omega)) | exact .v (by omega) | exact .b (by omega) | exact .q (by omega) | exact .w | exact .b (by exact at_) rfl (by exact nth_Ju) | exact .w (by exact at_) rfl rfl (by exact sz_Ju) | exact .s (by exact at_) (by exact mid_Ju) rfl rfl (by exact sz_Ju) | exact .z rfl rfl ⟨by kernel_rfl⟩ | exact .b rfl rfl ⟨by kernel_rfl⟩ | exact .a rfl rfl ⟨by kernel_rfl⟩ | exact .o rfl | exact .s | exact .n | exact .p rfl | exact .q rfl | exact .c rfl | exact .d rfl | exact .n rfl rfl (by omega) | exact .a rfl rfl (by omega) | exact .p rfl rfl (by omega) (by omega) | exact .y rfl rfl (by omega) (by omega) | exact .o (by exact at_) (by omega) rfl (by exact nth_Ju) | exact .m (by exact at_) (by omega) (by exact mid_Ju) rfl rfl (by exact sz_Ju) | exact .mlen (by exact at_) rfl | exact .t (by exact at_) rfl rfl (by first | exact True.intro | rfl) (by assumption) | exact .f (by exact at_) rfl rfl (by first | exact True.intro | rfl) (by assumption) rfl | exact .t1 (by exact at_) rfl rfl (by first | exact True.intro | rfl) (by assumption) | exact .f1 (by exact at_) rfl rfl (by first | exact True.intro | rfl) (by assumption) rfl | exact .tk (by exact at_) rfl (by assumption) (by assumption) | exact .fk (by exact at_) rfl (by assumption) (by assumption) rfl | exact .tk1 (by exact at_) rfl (by assumption) (by assumption) | exact .fk1 (by exact at_) rfl (by assumption) (by assumption) rfl | exact .r rfl rfl (by omega) (by omega) (by exact nth_Ju) rfl | exact .s rfl (by omega) (by assumption) | exact at_ | assumption | exact .r rfl rfl | exact .h rfl rfl rfl (by omega) | exact .l rfl rfl rfl (by omega) (by omega) | exact .g rfl rfl rfl rfl (by omega) (by omega) | exact .h rfl rfl (toN_ (by omega)) (by omega) | exact .l rfl rfl (toN_ (by omega)) (by omega) (by omega) | exact .g rfl rfl (toN_ (by omega)) (toN_ (by omega)) (by omega) (by omega) | exact .o (by decide) | exact .f (by decide) | exact .n (by omega) (by first | decide | (show _ ≤ ((64 : Nat) : Int); omega)) | (constructor; (repeat (first | exact .t (by omega) | exact .f (by omega) | exact .u | exact .i (by omega) | exact .v (by omega) | exact .b (by omega) | exact .w | rfl | omega)); first | done | fail) | omega | (show _ ≤ ((64 : Nat) : Int); omega)) : φ := h
theorem pv_Ju {φ : Prop} (h : φ := by constructor; (repeat exact cl_Ju); first | done | fail) : φ := h
theorem su_Ju {φ ψ : Prop} (k : ψ) (h : Hide ψ → φ := by (intro k; (first | refine sl_pu (PuI.sep (by exact pv_Ju)) rfl ?_ | refine sl_yes rfl rfl ?_ | refine sl_no rfl rfl rfl ?_ | refine sl_off rfl rfl rfl ?_ | (fail)); exact k.out)) : φ := h ⟨k⟩
theorem sto_Ju {φ ψ : Prop} (k : ψ) (h : Hide ψ → φ := by (intro k; (first | refine sl_store rfl (by exact pick_) rfl rfl (by kernel_rfl) (by exact set_Ju) ?_ | refine sl_store_whole rfl (by exact pick_) rfl (by exact sz_Ju) (by exact sz_Ju) (by exact one_Ju) ?_); exact k.out)) : φ := h ⟨k⟩
theorem go_Ju {φ ψ : Prop} (k : ψ) (h : Hide ψ → φ := by (intro k; (repeat (first | refine su_Ju ?_ | refine so_ ?_ | refine sto_Ju ?_)); exact k.out)) : φ := h ⟨k⟩
theorem sub_row0 {K : List Fa} : Sub K ((⟨[], none, 0⟩ : SRow).row :: (⟨[], none, 0⟩ : SRow).st :: K) := by
  show Sub K (own 60 1 none 0 0 [] :: star [] :: K)
  exact Sub.own_nil (Sub.free (fun w => by unfold star; exact (Sep.start w).sub Sub.nil) (fun k hk => by unfold star at hk; exact foot_nil hk) Sub.refl)
structure Sg where
  q : SRow
  k : Nat
  j : Nat
set_option maxRecDepth 100000 in
set_option maxHeartbeats 4000000 in
theorem scan_ok {K : List Fa} {A : Option Addr} {n c j0 k0 : Nat} {bs : List Int} {out0 : List (List Int)} (h : Rd K A n c bs) (hn : n ≤ 100000000000) (hc0 : chainL bs j0 = some (k0, out0)) (he0 : recordL bs k0 = none) :
    Fn Tryz.prog 39 #[.slice A n c] K (ScA K out0 k0 (haltB bs k0 (cutN bs - k0))) := by
  refine fn_enter Tryz.func39 rfl _ Tryz.ntmps39 (by simp) [(0, .slice A n c)] (args_of (by simp)) ?_
  have hle := h.le
  have hlen := h.len
  refine go_Ju ?_
  refine sc_bjoin (fun q : Sg => [(0, .slice A n c), (5, .slice q.q.R q.q.xs.length q.q.c), (6, .int .i64 k0)]) (fun q => q.q.row :: q.q.st :: K) (fun q => q.q.xs.map Sx.l = out0 ∧ (∀ x ∈ q.q.xs, x.ok) ∧ k0 * 64 ≤ n) ?_ ?_
  · refine sc_for (fun q : Sg => [(0, .slice A n c), (5, .slice q.q.R q.q.xs.length q.q.c), (6, .int .i64 q.k)]) (fun q => q.q.row :: q.q.st :: K) (fun q => chainL bs q.j = some (q.k, q.q.xs.map Sx.l) ∧ (∀ x ∈ q.q.xs, x.ok) ∧ q.k * 64 ≤ n ∧ q.q.xs.length ≤ q.k) (fun q => n - q.k) ⟨⟨[], none, 0⟩, 0, 0⟩ (by exact has_) sub_row0 ⟨rfl, (fun x hx => by cases hx), Nat.zero_le _, Nat.le_refl _⟩ ?_
    rintro ⟨⟨xs, R, cr⟩, k, j⟩ ⟨hch, hok, hk, hx⟩
    replace hch : chainL bs j = some (k, xs.map Sx.l) := hch
    replace hk : k * 64 ≤ n := hk
    replace hx : xs.length ≤ k := hx
    replace hok : ∀ x ∈ xs, x.ok := hok
    dsimp only [SRow.row, SRow.st]
    have hrc := record_ok (h.mono (Z' := own 60 1 R xs.length cr (sxV xs) :: star (sxO xs) :: K) (by exact sub_)) (k := k) (by omega)
    refine go_Ju ?_
    cases hr : recordL bs k with
    | none =>
      obtain ⟨e1, e2⟩ := chain_end hch hr hc0 he0
      subst e1
      rw [hr, RcA_no] at hrc
      refine sl_call rfl rfl (by kernel_rfl) rfl (by exact sub_) hrc ?_
      rintro _ -
      refine go_Ju ?_
      exact se_mid ⟨⟨xs, R, cr⟩, k, j⟩ (by exact has_) (by exact sub_) ⟨e2, hok, hk⟩
    | some xm =>
      obtain ⟨x, m⟩ := xm
      obtain ⟨m1, m2, m3, m4, m5⟩ := recordL_some hr h.okb
      rw [hlen] at m3
      rw [hr, RcA_yes] at hrc
      refine sl_call rfl rfl (by kernel_rfl) rfl (by exact sub_) hrc ?_
      rintro ⟨P, cp, dp⟩ hcp
      replace hcp : x.length ≤ cp ∧ cp ≤ maxLen := hcp
      dsimp only
      refine go_Ju ?_
      refine sl_build (size := 1) (e := 60) (cells := [.slice P x.length cp]) rfl (fun W => by kernel_rfl) rfl (by decide) rfl ?_
      intro gb
      refine sl_app (z := .slice none 0 0) (size := 1) (bytes := 24) rfl (by exact pick_) rfl (Vw.of_own (e := 60) (c := 1) (A := some ⟨gb, 0, none⟩) (by exact at_)) sl1_one rfl (by kernel_rfl) (by decide) (by decide) rfl (by unfold maxLen; omega) (by omega) ?_
      intro R2 cr2
      refine go_Ju ?_
      have e3 : sxV xs ++ [Value.slice P x.length cp] = sxV (xs ++ [⟨P, cp, dp, x⟩]) := by simp [sxV, Sx.v]
      have e4 : sxO xs ++ [u8o P dp x] = sxO (xs ++ [⟨P, cp, dp, x⟩]) := by simp [sxO, Sx.fa]
      have e5 : xs.length + 1 = (xs ++ [(⟨P, cp, dp, x⟩ : Sx)]).length := by simp
      rw [e3, e5]
      refine se_ent (fun w hw => star_snoc (f := u8o P dp x) (G := sxO xs) (K := own 60 1 R2 (xs ++ [(⟨P, cp, dp, x⟩ : Sx)]).length cr2 (sxV (xs ++ [⟨P, cp, dp, x⟩])) :: K) w (hw.sub (by exact sub_))) ?_
      rw [e4]
      refine se_round ⟨⟨xs ++ [⟨P, cp, dp, x⟩], R2, cr2⟩, k + m, j + 1⟩ (by exact has_) (by exact sub_) ⟨?_, ?_, by show (k + m) * 64 ≤ n; exact m3, by show (xs ++ [(⟨P, cp, dp, x⟩ : Sx)]).length ≤ k + m; simp; omega⟩ (by show n - (k + m) < n - k; omega)
      · show chainL bs (j + 1) = some (k + m, (xs ++ [(⟨P, cp, dp, x⟩ : Sx)]).map Sx.l)
        rw [chainL, hch]
        simp only [hr, List.map_append, List.map_cons, List.map_nil]
      · intro y hy
        rcases List.mem_append.1 hy with hy | hy
        · exact hok y hy
        · rw [List.mem_singleton] at hy
          subst hy
          exact ⟨hcp, by show x.length ≤ 1000000; omega, m5⟩
  rintro ⟨⟨xs, R, cr⟩, kk, jj⟩ ⟨hout, hok, hk⟩
  replace hk : k0 * 64 ≤ n := hk
  replace hok : ∀ x ∈ xs, x.ok := hok
  dsimp only [SRow.row, SRow.st]
  have hcut : cutN bs = (n + 63) / 64 := by unfold cutN; rw [hlen]
  obtain ⟨N, hN⟩ : ∃ N, cutN bs - k0 = N := ⟨_, rfl⟩
  rw [hN]
  have hN2 : cutN bs = k0 + N := by omega
  refine go_Ju ?_
  refine sc_bjoin (fun _ : Unit => [(5, .slice R xs.length cr), (6, .int .i64 k0)]) (fun _ => own 60 1 R xs.length cr (sxV xs) :: star (sxO xs) :: K) (fun _ => haltB bs k0 N = false) ?_ ?_
  · refine sc_for (fun i : Nat => [(0, .slice A n c), (5, .slice R xs.length cr), (6, .int .i64 k0), (10, .bool (tornB bs k0 i)), (11, .int .i64 ((k0 + i : Nat) : Int))]) (fun _ => own 60 1 R xs.length cr (sxV xs) :: star (sxO xs) :: K) (fun i => i ≤ N ∧ haltB bs k0 i = false) (fun i => N - i) 0 (by exact has_) (by exact sub_) ⟨Nat.zero_le _, rfl⟩ ?_
    rintro i ⟨hi, hno⟩
    by_cases hlt : i < N
    · have htk := take_ok (h.mono (Z' := own 60 1 R xs.length cr (sxV xs) :: star (sxO xs) :: K) (by exact sub_)) (k := k0 + i) (by omega)
      obtain ⟨tb, hT⟩ : ∃ tb, tornB bs k0 i = tb := ⟨_, rfl⟩
      rw [hT]
      refine go_Ju ?_
      cases ht : takeL bs (k0 + i) with
      | none =>
        have e1 : tornB bs k0 (i + 1) = true := by rw [tornB, ht]; simp
        have e2 : haltB bs k0 (i + 1) = false := by rw [haltB, hno, ht]; rfl
        rw [ht, TkA_no] at htk
        refine sl_call rfl rfl (by kernel_rfl) rfl (by exact sub_) htk ?_
        rintro _ -
        cases tb with
        | true =>
          refine go_Ju ?_
          refine sl_alloc rfl rfl rfl ?_; intro g12
          refine go_Ju ?_
          exact se_round (i + 1) (by rw [e1]; exact has_) (by exact sub_) ⟨hlt, e2⟩ (by omega)
        | false =>
          refine go_Ju ?_
          refine sl_alloc rfl rfl rfl ?_; intro g12
          refine go_Ju ?_
          exact se_round (i + 1) (by rw [e1]; exact has_) (by exact sub_) ⟨hlt, e2⟩ (by omega)
      | some fp =>
        obtain ⟨f, p⟩ := fp
        rw [ht, TkA_yes] at htk
        refine sl_call rfl rfl (by kernel_rfl) rfl (by exact sub_) htk ?_
        rintro ⟨P, cp⟩ -
        cases tb with
        | true =>
          have e2 : haltB bs k0 (i + 1) = true := by rw [haltB, hno, ht, hT]; rfl
          have e3 := halt_mono e2 (N - (i + 1))
          rw [show i + 1 + (N - (i + 1)) = N by omega] at e3
          rw [e3, ScA_no]
          refine go_Ju ?_
          refine sl_alloc rfl rfl rfl ?_; intro g12
          refine go_Ju ?_
          exact se_ret3 () trivial rfl rfl rfl rfl rfl (by exact sub_)
        | false =>
          have e1 : tornB bs k0 (i + 1) = false := by rw [tornB, ht, hT]; rfl
          have e2 : haltB bs k0 (i + 1) = false := by rw [haltB, hno, ht, hT]; rfl
          refine go_Ju ?_
          refine sl_alloc rfl rfl rfl ?_; intro g12
          refine go_Ju ?_
          exact se_round (i + 1) (by rw [e1]; exact has_) (by exact sub_) ⟨hlt, e2⟩ (by omega)
    · obtain rfl : i = N := by omega
      refine go_Ju ?_
      exact se_mid () (by exact has_) (by exact sub_) hno
  rintro _ hno
  rw [hno, ScA_yes]
  refine go_Ju ?_
  exact se_ret3 ⟨xs, R, cr⟩ ⟨hout, hok⟩ rfl rfl rfl rfl rfl (by exact sub_)
end Go.Proofs.YtocaabnbmcpjmaaGreatDoor
/- A record laid in cells: the program's lay and Lay. -/
namespace Go.Proofs.YtocaabnbmcpjmaaGreatDoor
open Go.RowKit
attribute [local irreducible] Go.Calls Go.Exit.then Go.Exit.inBlock Go.bodyPost Go.Code.wp Go.wpList takeL recordL
theorem zs_len {n : Nat} : (zs n).length = n := by simp [zs]
theorem zs_bytes {n : Nat} : IsBytes (zs n) := fun x hx => by
  have := List.eq_of_mem_replicate hx
  subst this
  exact ⟨by decide, by decide⟩
theorem made_u8 (n m : Nat) (h : m ≤ n) : ((madeCells (Value.int .u8 0).cells (n * 1)).toList.take (m * 1)) = bytes (zs m) := by
  rw [Nat.mul_one, Nat.mul_one]
  have h1 : (madeCells (Value.int .u8 0).cells n).toList = List.replicate n (Value.int .u8 0) := by
    apply List.ext_getElem?
    intro i
    by_cases hi : i < n
    · simp [madeCells, Value.cells, hi, Nat.mod_one]
    · simp [madeCells, Value.cells, hi]
  rw [h1, List.take_replicate, Nat.min_eq_left h]
  simp [bytes, zs]
theorem bodyL_len {number follow : Nat} {part : List Int} (h : part.length ≤ 48) : (bodyL number follow part).length = 56 := by
  simp only [bodyL, List.length_append, le_len, zs_len]
  omega
theorem bodyL_bytes {number follow : Nat} {part : List Int} (h : IsBytes part) : IsBytes (bodyL number follow part) :=
  ((((le_bytes _ _).app (le_bytes _ _)).app (le_bytes _ _)).app h).app zs_bytes
theorem cellL_len {number follow : Nat} {part : List Int} (h : part.length ≤ 48) : (cellL number follow part).length = 64 := by
  rw [cellL, List.length_append, (hashL_ok _ _ _).1, bodyL_len h]
theorem partL_len {bs : List Int} {i : Nat} : (partL bs i).length ≤ 48 := by rw [partL, List.length_take]; omega
theorem recF_len {number many : Nat} {bs : List Int} : ∀ {i : Nat}, (recF number many bs i).length = i * 64
  | 0 => rfl
  | i + 1 => by rw [recF, List.length_append, recF_len, cellL_len partL_len]; omega
attribute [local irreducible] hashL
theorem nth_Jl {φ : Prop} (h : φ := by (first | rfl | rfl)) : φ := h
theorem mid_Jl {φ : Prop} (h : φ := by (first | exact Mid.all | exact Mid.all | exact Mid.head)) : φ := h
theorem sz_Jl {φ : Prop} (h : φ := by (first | rfl | (rfl; first | done | fail))) : φ := h
theorem one_Jl {φ : Prop} (h : φ := by (first | assumption | exact one_bytes _ | (simp only [List.mem_cons, List.not_mem_nil, or_false, forall_eq_or_imp, forall_eq]; decide) | exact one_bytes _ | (intro v hv; (repeat (rcases List.mem_cons.1 hv with rfl | hv; rfl)); cases hv))) : φ := h
theorem set_Jl {φ : Prop} (h : φ := by (first | (fail) | ((repeat (first | exact SetAt.here | apply SetAt.there)); first | done | fail))) : φ := h
theorem cl_Jl {φ : Prop} (h : φ := by first | rfl | exact .t | exact .f | exact .t (by omega) | exact .f (by omega) | exact .u | exact .i (by (first | exact .t (by omega) | exact .f (by omega) | exact .u | exact .i (by omega) | exact .v (by omega) | exact .b (by omega) | exact .w | rfl | omega)) | exact .v (by omega) | exact .b (by omega) | exact .q (by omega) | exact .w | exact .b (by exact at_) rfl (by exact nth_Jl) | exact .w (by exact at_) rfl rfl (by exact sz_Jl) | exact .s (by exact at_) (by exact mid_Jl) rfl rfl (by exact sz_Jl) | exact .z rfl rfl ⟨by kernel_rfl⟩ | exact .b rfl rfl ⟨by kernel_rfl⟩ | exact .a rfl rfl ⟨by kernel_rfl⟩ | exact .o rfl | exact .s | exact .n | exact .p rfl | exact .q rfl | exact .c rfl | exact .d rfl | exact .n rfl rfl (by omega) | exact .a rfl rfl (by omega) | exact .p rfl rfl (by omega) (by omega) | exact .y rfl rfl (by omega) (by omega) | exact .o (by exact at_) (by omega) rfl (by exact nth_Jl) | exact .m (by exact at_) (by omega) (by exact mid_Jl) rfl rfl (by exact sz_Jl) | exact .mlen (by exact at_) rfl | exact .t (by exact at_) rfl rfl (by first | exact True.intro | rfl) (by assumption) | exact .f (by exact at_) rfl rfl (by first | exact True.intro | rfl) (by assumption) rfl | exact .t1 (by exact at_) rfl rfl (by first | exact True.intro | rfl) (by assumption) | exact .f1 (by exact at_) rfl rfl (by first | exact True.intro | rfl) (by assumption) rfl | exact .tk (by exact at_) rfl (by assumption) (by assumption) | exact .fk (by exact at_) rfl (by assumption) (by assumption) rfl | exact .tk1 (by exact at_) rfl (by assumption) (by assumption) | exact .fk1 (by exact at_) rfl (by assumption) (by assumption) rfl | exact .r rfl rfl (by omega) (by omega) (by exact nth_Jl) rfl | exact .s rfl (by omega) (by assumption) | exact at_ | assumption | exact .r rfl rfl | exact .h rfl rfl rfl (by omega) | exact .l rfl rfl rfl (by omega) (by omega) | exact .g rfl rfl rfl rfl (by omega) (by omega) | exact .h rfl rfl (toN_ (by omega)) (by omega) | exact .l rfl rfl (toN_ (by omega)) (by omega) (by omega) | exact .g rfl rfl (toN_ (by omega)) (toN_ (by omega)) (by omega) (by omega) | exact .o (by decide) | exact .f (by decide) | exact .n (by omega) (by first | decide | (show _ ≤ ((64 : Nat) : Int); omega)) | (constructor; (repeat (first | exact .t (by omega) | exact .f (by omega) | exact .u | exact .i (by omega) | exact .v (by omega) | exact .b (by omega) | exact .w | rfl | omega)); first | done | fail) | omega | (show _ ≤ ((64 : Nat) : Int); omega)) : φ := h
theorem pv_Jl {φ : Prop} (h : φ := by constructor; (repeat exact cl_Jl); first | done | fail) : φ := h
theorem su_Jl {φ ψ : Prop} (k : ψ) (h : Hide ψ → φ := by (intro k; (first | refine sl_pu (PuI.sep (by exact pv_Jl)) rfl ?_ | refine sl_yes rfl rfl ?_ | refine sl_no rfl rfl rfl ?_ | refine sl_off rfl rfl rfl ?_ | (fail)); exact k.out)) : φ := h ⟨k⟩
theorem sto_Jl {φ ψ : Prop} (k : ψ) (h : Hide ψ → φ := by (intro k; (first | refine sl_store rfl (by exact pick_) rfl rfl (by kernel_rfl) (by exact set_Jl) ?_ | refine sl_store_whole rfl (by exact pick_) rfl (by exact sz_Jl) (by exact sz_Jl) (by exact one_Jl) ?_); exact k.out)) : φ := h ⟨k⟩
theorem go_Jl {φ ψ : Prop} (k : ψ) (h : Hide ψ → φ := by (intro k; (repeat (first | refine su_Jl ?_ | refine so_ ?_ | refine sto_Jl ?_)); exact k.out)) : φ := h ⟨k⟩
set_option maxRecDepth 100000 in
set_option maxHeartbeats 4000000 in
theorem layP_ok {K : List Fa} {A : Option Addr} {n c number follow : Nat} {part : List Int} (h : Rd K A n c part) (hn : n ≤ 48) (h1 : number < 16777216) (h2 : follow < 16777216) :
    Fn Tryz.prog 111 #[.int .u32 number, .int .u32 follow, .slice A n c] K (Ret (fun _ : Option Addr × Nat => True) (fun q => .slice q.1 64 q.2) (fun q => own 5 1 q.1 64 q.2 (bytes (cellL number follow part)) :: K)) := by
  refine fn_enter Tryz.func111 rfl _ Tryz.ntmps111 (by simp) [(0, .int .u32 number), (1, .int .u32 follow), (2, .slice A n c)] (args_of (by simp)) ?_
  have hle := h.le
  have hlen := h.len
  refine go_Jl ?_
  refine sl_alloc rfl rfl rfl ?_; intro b
  refine sl_sub (L' := wrb b none ([] : List Int).length 0 :: u8o none 0 [] :: K) (.cons .here (Sub.own_nil Sub.refl)) ?_
  refine go_Jl ?_
  refine sl_make (lo := .tmp 0) (i := default) (k := 8) (c := 8) (bytes := 1) (size := 1) (z := .int .u8 0) (e := 5) rfl rfl rfl (by kernel_rfl) (by decide) (by decide) (by decide) rfl ?_
  intro gz
  rw [made_u8 8 8 (by decide)]
  refine sl_call rfl rfl (by kernel_rfl) rfl (by exact sub_) (wRaw (K := own 5 1 (some ⟨gz, 0, none⟩) 8 8 (bytes (zs 8)) :: K) (bs := []) (xs := zs 8) (Vw.of_own (e := 5) .here) (by decide)) ?_
  rintro ⟨A1, c1⟩ -
  rw [List.nil_append]
  refine go_Jl ?_
  refine sl_call rfl rfl (by kernel_rfl) rfl (by exact sub_) (wUint (K := K) (n := number) (k := 3) (by decide) (by omega) (by omega) (by rw [zs_len]; decide)) ?_
  rintro ⟨A2, c2⟩ -
  refine go_Jl ?_
  refine sl_call rfl rfl (by kernel_rfl) rfl (by exact sub_) (wUint (K := K) (n := follow) (k := 3) (by decide) (by omega) (by omega) (by simp only [List.length_append, zs_len, le_len]; decide)) ?_
  rintro ⟨A3, c3⟩ -
  refine go_Jl ?_
  refine sl_call rfl rfl (by kernel_rfl) rfl (by exact sub_) (wUint (K := K) (n := (n : Int)) (k := 2) (by decide) (by omega) (by omega) (by simp only [List.length_append, zs_len, le_len]; decide)) ?_
  rintro ⟨A4, c4⟩ -
  refine go_Jl ?_
  refine sl_call rfl rfl (by kernel_rfl) rfl (by exact sub_) (wRaw (K := K) (xs := part) h.vw (by simp only [List.length_append, zs_len, le_len]; omega)) ?_
  rintro ⟨A5, c5⟩ -
  refine go_Jl ?_
  refine sl_make (lo := .tmp 0) (i := default) (k := 48 - n) (c := 48 - n) (bytes := 1) (size := 1) (z := .int .u8 0) (e := 5) (by show some (Value.int _ _) = some (Value.int _ _); congr 2; omega) (by show some (Value.int _ _) = some (Value.int _ _); congr 2; omega) rfl (by kernel_rfl) (Nat.le_refl _) (by omega) (by unfold maxLen; omega) rfl ?_
  intro gy
  rw [made_u8 (48 - n) (48 - n) (Nat.le_refl _)]
  refine sl_call rfl rfl (by kernel_rfl) rfl (by exact sub_) (wRaw (K := own 5 1 (some ⟨gy, 0, none⟩) (48 - n) (48 - n) (bytes (zs (48 - n))) :: K) (xs := zs (48 - n)) (Vw.of_own (e := 5) .here) (by simp only [List.length_append, zs_len, le_len]; omega)) ?_
  rintro ⟨A6, c6⟩ -
  have hw : zs 8 ++ le number 3 ++ le follow 3 ++ le n 2 ++ part ++ zs (48 - n) = zs 8 ++ bodyL number follow part := by rw [bodyL, hlen]; simp only [List.append_assoc]
  rw [hw]
  refine go_Jl ?_
  have hbl := bodyL_len (number := number) (follow := follow) (part := part) (by omega)
  have hll : (zs 8 ++ bodyL number follow part).length = 64 := by rw [List.length_append, zs_len, hbl]
  refine sl_call rfl rfl (by kernel_rfl) rfl (by exact sub_) (wBytes (K := K) (bs := zs 8 ++ bodyL number follow part) (by omega)) ?_
  rintro ⟨A7, c7⟩ -
  have hcell : cellL number follow part = hashL 9 (bodyL number follow part) 8 ++ bodyL number follow part := rfl
  have hdr : (zs 8 ++ bodyL number follow part).drop 8 = bodyL number follow part := List.drop_left' zs_len
  have hbb : IsBytes (zs 8 ++ bodyL number follow part) := zs_bytes.app (bodyL_bytes h.okb)
  generalize zs 8 ++ bodyL number follow part = ws at hll hdr hbb ⊢
  rw [← hdr] at hcell
  show SL _ _ _ _ _ _ (own 5 1 A7 ws.length c7 (bytes ws) :: _)
  rw [hll]
  refine sl_form (e := 5) (size := 1) (A := A7) (m := 64) (by exact at_) (by decide) ?_
  rintro g7 rfl
  refine sl_know (fun w hw => (own_len (e := 5) (size := 1) (A := some ⟨g7, 0, none⟩) hw (by exact at_)).2) ?_
  rintro ⟨l1, l2⟩
  refine go_Jl ?_
  refine sl_call rfl rfl (by kernel_rfl) rfl Sub.refl (sum_ok (xs := ws) ⟨Vw.of_own (e := 5) (c := c7) (by exact at_), l1, by decide, l2, hll, hbb⟩ (by decide)) ?_
  rintro ⟨A8, c8⟩ -
  refine go_Jl ?_
  refine sl_form (e := 5) (size := 1) (A := A8) (m := 8) (by exact at_) (by decide) ?_
  rintro g8 rfl
  refine sl_copy0 (e := 5) (size := 1) (k := 64) (c := c7) (xs := bytes ws) (cs := bytes (hashL 9 (ws.drop 8) 8)) (kk := 8) (o := 0) (g := g7) rfl (by exact pick_) rfl rfl rfl (by decide) (by rw [bytes_length, (hashL_ok _ _ _).1]) (own_cells (e := 5) (size := 1) (k := 8) (c := c8) (xs := bytes (hashL 9 (ws.drop 8) 8)) (by exact at_) Mid.all (by decide)) (by rw [bytes_length, (hashL_ok _ _ _).1]; decide) (one_bytes _) rfl ?_
  have hfin : (bytes ws).take 0 ++ bytes (hashL 9 (ws.drop 8) 8) ++ (bytes ws).drop (0 + (bytes (hashL 9 (ws.drop 8) 8)).length) = bytes (cellL number follow part) := by
    rw [hcell, bytes_app, List.take_zero, List.nil_append, bytes_length, (hashL_ok _ _ _).1]
    simp [bytes]
  rw [hfin]
  refine go_Jl ?_
  exact se_ret1 (some ⟨g7, 0, none⟩, c7) trivial rfl rfl (by exact sub_)
theorem drop_part {bs : List Int} {i n : Nat} (h : bs.length = n) : (bs.drop (i * 48)).take (min ((i + 1) * 48) n - i * 48) = partL bs i := by
  unfold partL
  by_cases hc : (i + 1) * 48 ≤ n
  · rw [Nat.min_eq_left hc]
    congr 1
    omega
  · rw [Nat.min_eq_right (by omega), List.take_of_length_le (by rw [List.length_drop, h]; omega), List.take_of_length_le (by rw [List.length_drop, h]; omega)]
def LyA (K : List Fa) (number : Int) (bs : List Int) : Ending → World → Prop :=
  if number < 0 ∨ 1048576 ≤ number then Ret (fun _ : Unit => True) (fun _ => .tuple #[.slice none 0 0, .int .i64 6]) (fun _ => K)
  else if 65536 < bs.length then Ret (fun _ : Unit => True) (fun _ => .tuple #[.slice none 0 0, .int .i64 4]) (fun _ => K)
  else Ret (fun _ : Option Addr × Nat => True) (fun q => .tuple #[.slice q.1 (recL number.toNat bs).length q.2, .int .i64 0]) (fun q => u8o q.1 q.2 (recL number.toNat bs) :: K)
set_option maxRecDepth 100000 in
set_option maxHeartbeats 4000000 in
theorem Lay_ok {K : List Fa} {A : Option Addr} {n c : Nat} {number : Int} {bs : List Int} (h : Rd K A n c bs) (hnb : -9223372036854775808 ≤ number ∧ number ≤ 9223372036854775807) :
    Fn Tryz.prog 85 #[.int .i64 number, .slice A n c] K (LyA K number bs) := by
  refine fn_enter Tryz.func85 rfl _ Tryz.ntmps85 (by simp) [(0, .int .i64 number), (1, .slice A n c)] (args_of (by simp)) ?_
  have hle := h.le
  have hlen := h.len
  have hbig := h.big
  unfold LyA
  by_cases h0 : number < 0
  · rw [if_pos (.inl h0)]
    refine go_Jl ?_
    exact se_ret2 () trivial rfl rfl rfl rfl (by exact sub_)
  by_cases h1 : 1048576 ≤ number
  · rw [if_pos (.inr h1)]
    refine go_Jl ?_
    exact se_ret2 () trivial rfl rfl rfl rfl (by exact sub_)
  rw [if_neg (by omega)]
  by_cases h2 : 65536 < n
  · rw [if_pos (by omega)]
    refine go_Jl ?_
    exact se_ret2 () trivial rfl rfl rfl rfl (by exact sub_)
  rw [if_neg (by omega)]
  obtain ⟨k, rfl⟩ : ∃ k : Nat, number = k := ⟨number.toNat, by omega⟩
  rw [Int.toNat_natCast]
  refine go_Jl ?_
  refine sl_call rfl rfl (by kernel_rfl) rfl (by exact sub_) (cells_ok (n := n) (by omega)) ?_
  rintro _ -
  have hrec : recL k bs = recF k (manyL n) bs (manyL n) := by rw [recL, hlen]
  rw [hrec, recF_len]
  have hmb : manyL n ≤ 1366 := by unfold manyL; omega
  have hm1 : 1 ≤ manyL n := by unfold manyL; omega
  have hms : (manyL n - 1) * 48 ≤ n := by unfold manyL; omega
  generalize manyL n = many at hmb hm1 hms ⊢
  refine go_Jl ?_
  refine sc_for (fun q : Wg => [(0, .int .i64 k), (1, .slice A n c), (6, .int .i64 many), (7, .slice q.A (q.j * 64) q.c), (24, .int .i64 many), (25, .int .i64 q.j)]) (fun q => own 5 1 q.A (q.j * 64) q.c (bytes (recF k many bs q.j)) :: K) (fun q => q.j ≤ many) (fun q => many - q.j) ⟨0, none, 0⟩ (by exact has_) (Sub.own_nil Sub.refl) (Nat.zero_le _) ?_
  rintro ⟨i, B, cb⟩ hi
  replace hi : i ≤ many := hi
  dsimp only
  by_cases hlt : i < many
  · have hin : i * 48 ≤ n := by
      have : i * 48 ≤ (many - 1) * 48 := Nat.mul_le_mul_right _ (by omega)
      omega
    have hmn : (if (n : Int) < ((i : Int) + 1) * 48 then (n : Int) else ((i : Int) + 1) * 48) = ((min ((i + 1) * 48) n : Nat) : Int) := by split <;> omega
    have hr := (h.next (k := i * 48) hin).front (m := min ((i + 1) * 48) n - i * 48) (by omega)
    rw [drop_part hlen] at hr
    refine go_Jl ?_
    rw [hmn]
    rw [show ((i : Int) * 48).toNat = i * 48 by omega, Int.toNat_natCast]
    have e1 : (k : Int) + i = ((k + i : Nat) : Int) := by omega
    have e2 : (many : Int) - 1 - i = ((many - 1 - i : Nat) : Int) := by omega
    rw [e1, e2]
    refine sl_call rfl rfl (by kernel_rfl) rfl Sub.refl (layP_ok (number := k + i) (follow := many - 1 - i) (hr.mono (by exact sub_)) (by omega) (by omega) (by omega)) ?_
    rintro ⟨B2, cb2⟩ -
    refine sl_app rfl (by exact pick_) rfl (Vw.of_own (e := 5) (c := cb2) (by exact at_)) (one_bytes _) rfl Tryz.info5 (by decide) (by decide) rfl (by unfold maxLen; omega) (by omega) ?_
    intro B3 cb3
    rw [← bytes_app, show i * 64 + 64 = (i + 1) * 64 by omega]
    refine go_Jl ?_
    exact se_round ⟨i + 1, B3, cb3⟩ (by exact has_) (by exact sub_) hlt (by show many - (i + 1) < many - i; omega)
  obtain rfl : i = many := by omega
  refine go_Jl ?_
  refine se_ret2 (B, cb) trivial rfl rfl rfl rfl ?_
  show Sub _ (own 5 1 B (recF k i bs i).length cb (bytes (recF k i bs i)) :: K)
  rw [recF_len]
  exact sub_
end Go.Proofs.YtocaabnbmcpjmaaGreatDoor
