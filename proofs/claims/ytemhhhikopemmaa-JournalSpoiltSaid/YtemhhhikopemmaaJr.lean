/- A record out of a journal: record. -/
import Derived.Test.YtemhhhikopemmaaJt
namespace Go.Proofs.Ytemhhhikopemmaa
open Go.RowKit
attribute [local irreducible] Go.Calls Go.Exit.then Go.Exit.inBlock Go.bodyPost Go.Code.wp Go.wpList takeL
theorem all_take {l : List Int} {s : Nat} : (l.take s).length ≤ l.length := by rw [List.length_take]; omega
theorem saysL_some {d : List Int} {k f : Nat} {p : List Int} (h : saysL d k = some (f, p)) (hb : IsBytes d) : p.length ≤ 48 ∧ f < 16777216 ∧ IsBytes p := by
  unfold saysL at h
  split at h
  · cases h
  split at h
  · cases h
  split at h
  · injection h with h
    injection h with h1 h2
    subst h1 h2
    refine ⟨by rw [List.length_take, List.length_take]; omega, ?_, ((hb.drop 8).take 48).take _⟩
    have := leV_lt ((hb.drop 3).take 3)
    have h3 : ((d.drop 3).take 3).length ≤ 3 := by rw [List.length_take]; omega
    have h4 : (2 : Int) ^ (8 * ((d.drop 3).take 3).length) ≤ 2 ^ 24 := by
      have h5 : (2 : Nat) ^ (8 * ((d.drop 3).take 3).length) ≤ 2 ^ 24 := Nat.pow_le_pow_right (by decide) (by omega)
      have h6 : ((2 ^ (8 * ((d.drop 3).take 3).length) : Nat) : Int) ≤ ((2 ^ 24 : Nat) : Int) := by omega
      simpa using h6
    omega
  · cases h
attribute [local semireducible] takeL in
theorem takeL_some {bs : List Int} {k f : Nat} {p : List Int} (h : takeL bs k = some (f, p)) (hb : IsBytes bs) : p.length ≤ 48 ∧ f < 16777216 ∧ IsBytes p ∧ (k + 1) * 64 ≤ bs.length := by
  unfold takeL at h
  split at h
  · cases h
  split at h
  · cases h
  obtain ⟨h1, h2, h3⟩ := saysL_some h (((hb.drop _).take _).drop _)
  exact ⟨h1, h2, h3, by omega⟩
theorem build_jc (f : Int) (A : Option Addr) (n c : Nat) (W : World) : (Instr.build 78 #[(0, .int .i64 f), (1, .slice A n c)]).run Try.prog W = .ok (.agg #[.int .i64 f, .slice A n c]) W := by kernel_rfl
theorem nth_Jr {φ : Prop} (h : φ := by (first | rfl | rfl)) : φ := h
theorem mid_Jr {φ : Prop} (h : φ := by (first | exact Mid.all | exact Mid.all | exact Mid.head)) : φ := h
theorem sz_Jr {φ : Prop} (h : φ := by (first | rfl | (rfl; first | done | fail))) : φ := h
theorem one_Jr {φ : Prop} (h : φ := by (first | assumption | exact first | exact jc_one | exact jz_one | exact one_bytes _ | (simp only [List.mem_cons, List.not_mem_nil, or_false, forall_eq_or_imp, forall_eq]; decide) | exact one_bytes _)) : φ := h
theorem set_Jr {φ : Prop} (h : φ := by (first | (fail) | ((repeat (first | exact SetAt.here | apply SetAt.there)); first | done | fail))) : φ := h
theorem cl_Jr {φ : Prop} (h : φ := by first | rfl | exact .t | exact .f | exact .t (by omega) | exact .f (by omega) | exact .u | exact .i (by (first | exact .t (by omega) | exact .f (by omega) | exact .u | exact .i (by omega) | exact .v (by omega) | exact .b (by omega) | exact .w | rfl | omega)) | exact .v (by omega) | exact .b (by omega) | exact .q (by omega) | exact .w | exact .b (by exact at_) rfl (by exact nth_Jr) | exact .w (by exact at_) rfl rfl (by exact sz_Jr) | exact .s (by exact at_) (by exact mid_Jr) rfl rfl (by exact sz_Jr) | exact .z rfl rfl ⟨by kernel_rfl⟩ | exact .b rfl rfl ⟨by kernel_rfl⟩ | exact .a rfl rfl ⟨by kernel_rfl⟩ | exact .o rfl | exact .s | exact .n | exact .p rfl | exact .q rfl | exact .c rfl | exact .d rfl | exact .n rfl rfl (by omega) | exact .a rfl rfl (by omega) | exact .p rfl rfl (by omega) (by omega) | exact .y rfl rfl (by omega) (by omega) | exact .o (by exact at_) (by omega) rfl (by exact nth_Jr) | exact .m (by exact at_) (by omega) (by exact mid_Jr) rfl rfl (by exact sz_Jr) | exact .mlen (by exact at_) rfl | exact .t (by exact at_) rfl rfl (by first | exact True.intro | rfl) (by assumption) | exact .f (by exact at_) rfl rfl (by first | exact True.intro | rfl) (by assumption) rfl | exact .t1 (by exact at_) rfl rfl (by first | exact True.intro | rfl) (by assumption) | exact .f1 (by exact at_) rfl rfl (by first | exact True.intro | rfl) (by assumption) rfl | exact .r rfl rfl (by omega) (by omega) (by exact nth_Jr) rfl | exact .s rfl (by omega) (by assumption) | exact at_ | assumption | exact .r rfl rfl | exact .h rfl rfl rfl (by omega) | exact .l rfl rfl rfl (by omega) (by omega) | exact .g rfl rfl rfl rfl (by omega) (by omega) | exact .h rfl rfl (toN_ (by omega)) (by omega) | exact .l rfl rfl (toN_ (by omega)) (by omega) (by omega) | exact .g rfl rfl (toN_ (by omega)) (toN_ (by omega)) (by omega) (by omega) | exact .o (by decide) | exact .f (by decide) | exact .n (by omega) (by first | decide | (show _ ≤ ((64 : Nat) : Int); omega)) | (constructor; (repeat (first | exact .t (by omega) | exact .f (by omega) | exact .u | exact .i (by omega) | exact .v (by omega) | exact .b (by omega) | exact .w | rfl | omega)); first | done | fail) | omega | (show _ ≤ ((64 : Nat) : Int); omega)) : φ := h
theorem pv_Jr {φ : Prop} (h : φ := by constructor; (repeat exact cl_Jr); first | done | fail) : φ := h
theorem su_Jr {φ ψ : Prop} (k : ψ) (h : Hide ψ → φ := by (intro k; (first | refine sl_pu (PuI.sep (by exact pv_Jr)) rfl ?_ | refine sl_yes rfl rfl ?_ | refine sl_no rfl rfl rfl ?_ | refine sl_off rfl rfl rfl ?_ | (fail)); exact k.out)) : φ := h ⟨k⟩
theorem rq_Jr {φ ψ : Prop} (k : ψ) (h : Hide ψ → φ := by (intro k; (first | refine wq_pu (PuI.sep (by exact pv_Jr)) rfl ?_ | refine wq_yes rfl rfl ?_ | refine wq_no rfl rfl rfl ?_ | refine wq_off rfl rfl rfl ?_ | (fail)); exact k.out)) : φ := h ⟨k⟩
theorem sto_Jr {φ ψ : Prop} (k : ψ) (h : Hide ψ → φ := by (intro k; (first | refine sl_store rfl (by exact pick_) rfl rfl (by kernel_rfl) (by exact set_Jr) ?_ | refine sl_store_whole rfl (by exact pick_) rfl (by exact sz_Jr) (by exact sz_Jr) (by exact one_Jr) ?_); exact k.out)) : φ := h ⟨k⟩
theorem go_Jr {φ ψ : Prop} (k : ψ) (h : Hide ψ → φ := by (intro k; (repeat (first | refine su_Jr ?_ | refine so_ ?_ | refine sto_Jr ?_)); exact k.out)) : φ := h ⟨k⟩
set_option maxRecDepth 100000 in
set_option maxHeartbeats 1000000 in
theorem cells_ok {K : List Fa} {n : Nat} (hn : n ≤ 1000000000000000) :
    Fn Try.prog 36 #[.int .i64 n] K (Ret (fun _ : Unit => True) (fun _ => .int .i64 (manyL n)) (fun _ => K)) := by
  refine fn_enter Try.func36 rfl _ Try.ntmps36 (by simp) [(0, .int .i64 n)] (args_of (by simp)) ?_
  have hm : (if ((n : Int) + 64 - 16 - 1) / 48 < 1 then (1 : Int) else ((n : Int) + 64 - 16 - 1) / 48) = manyL n := by
    unfold manyL
    split <;> omega
  refine go_Jr ?_
  rw [hm]
  refine go_Jr ?_
  exact se_ret1 () trivial rfl rfl (by exact sub_)
def RcA (K : List Fa) : Option (List Int × Nat) → Ending → World → Prop
  | some (out, m) => Ret (fun q : Option Addr × Nat × Nat => out.length ≤ q.2.1 ∧ q.2.1 ≤ maxLen) (fun q => .tuple #[.slice q.1 out.length q.2.1, .int .i64 m, .bool true]) (fun q => u8o q.1 q.2.2 out :: K)
  | none => Ret (fun _ : Unit => True) (fun _ => .tuple #[.slice none 0 0, .int .i64 0, .bool false]) (fun _ => K)
theorem RcA_no {K : List Fa} : RcA K none = Ret (fun _ : Unit => True) (fun _ => .tuple #[.slice none 0 0, .int .i64 0, .bool false]) (fun _ => K) := rfl
theorem RcA_yes {K : List Fa} {out : List Int} {m : Nat} : RcA K (some (out, m)) = Ret (fun q : Option Addr × Nat × Nat => out.length ≤ q.2.1 ∧ q.2.1 ≤ maxLen) (fun q => .tuple #[.slice q.1 out.length q.2.1, .int .i64 m, .bool true]) (fun q => u8o q.1 q.2.2 out :: K) := rfl
structure Jg where
  i : Nat
  out : List Int
  A : Option Addr
  c : Nat
  d : Nat
set_option maxRecDepth 100000 in
set_option maxHeartbeats 4000000 in
theorem record_ok {K : List Fa} {A : Option Addr} {n c k : Nat} {bs : List Int} (h : Rd K A n c bs) (hk : k ≤ 100000000000) :
    Fn Try.prog 38 #[.slice A n c, .int .i64 k] K (RcA K (recordL bs k)) := by
  refine fn_enter Try.func38 rfl _ Try.ntmps38 (by simp) [(0, .slice A n c), (1, .int .i64 k)] (args_of (by simp)) ?_
  have hle := h.le
  have hbig := h.big
  have hlen := h.len
  have htk := take_ok h (k := k) (by omega)
  refine go_Jr ?_
  cases ht : takeL bs k with
  | none =>
    rw [show recordL bs k = none from by unfold recordL; rw [ht], RcA_no]
    rw [ht, TkA_no] at htk
    refine sl_call rfl rfl (by kernel_rfl) rfl (by exact sub_) htk ?_
    rintro _ -
    refine go_Jr ?_
    refine sl_alloc rfl rfl rfl ?_; intro g7
    refine go_Jr ?_
    refine sd_drawn (fun W => AllP W [blk g7 78 jz]) (fun _ => true) (by kernel_rfl) 8 rfl ?_
    refine sd_yes2 0 rfl (by exact gd_) (by kernel_rfl) (by kernel_rfl) (by exact nop_) (PuI.all (by exact pv_Jr)) rfl (fun w hw => all_ hw) ?_
    refine sd_yes2 1 rfl (by exact gd_) (by kernel_rfl) (by kernel_rfl) (by exact nop_) (PuI.all (by exact pv_Jr)) rfl (fun w hw => all_ hw) ?_
    refine sd_yes2 2 rfl (by exact gd_) (by kernel_rfl) (by kernel_rfl) (by exact nop_) (PuI.all (by exact pv_Jr)) rfl (fun w hw => all_ hw) ?_
    first | refine sd_yes2 3 rfl (by exact gd_) (by kernel_rfl) (by kernel_rfl) (by exact nop_) (PuI.all (by exact pv_Jr)) rfl (fun w hw => all_ hw) ?_ | refine sd_off2 3 rfl (by exact gd_) (by kernel_rfl) (by kernel_rfl) (by exact nop_) rfl (fun w hw => all_ hw) ?_ | refine sd_off3 3 rfl rfl rfl (by kernel_rfl) (by kernel_rfl) (by exact nop_) rfl (fun w hw => all_ hw) ?_
    first | refine sd_yes2 4 rfl (by exact gd_) (by kernel_rfl) (by kernel_rfl) (by exact nop_) (PuI.all (by exact pv_Jr)) rfl (fun w hw => all_ hw) ?_ | refine sd_off2 4 rfl (by exact gd_) (by kernel_rfl) (by kernel_rfl) (by exact nop_) rfl (fun w hw => all_ hw) ?_ | refine sd_off3 4 rfl rfl rfl (by kernel_rfl) (by kernel_rfl) (by exact nop_) rfl (fun w hw => all_ hw) ?_
    refine sd_one 5 (by kernel_rfl) (sa_sl 5 rfl ?_)
    repeat refine su_Jr ?_
    refine sl_nil ?_
    refine se_sd (fun _ w hw => all_ hw) ?_
    first | refine sd_yes2 6 rfl (by exact gd_) (by kernel_rfl) (by kernel_rfl) (by exact nop_) (PuI.all (by exact pv_Jr)) rfl (fun w hw => all_ hw) ?_ | refine sd_off2 6 rfl (by exact gd_) (by kernel_rfl) (by kernel_rfl) (by exact nop_) rfl (fun w hw => all_ hw) ?_ | refine sd_off3 6 rfl rfl rfl (by kernel_rfl) (by kernel_rfl) (by exact nop_) rfl (fun w hw => all_ hw) ?_
    refine sd_yes2 7 rfl (by exact gd_) (by kernel_rfl) (by kernel_rfl) (by exact nop_) (PuI.all (by exact pv_Jr)) rfl (fun w hw => all_ hw) ?_
    refine sd_done (by kernel_rfl) ?_
    refine go_Jr ?_
    exact se_ret3 () trivial rfl rfl rfl rfl rfl (by exact sub_)
  | some fp =>
    obtain ⟨f, p⟩ := fp
    obtain ⟨hp1, hp2, hp3, hp4⟩ := takeL_some ht h.okb
    rw [ht, TkA_yes] at htk
    refine sl_call rfl rfl (by kernel_rfl) rfl (by exact sub_) htk ?_
    rintro ⟨P, cp⟩ -
    refine go_Jr ?_
    refine sl_alloc rfl rfl rfl ?_; intro g7
    refine go_Jr ?_
    by_cases hf : ¬ f < 1366
    · rw [show recordL bs k = none from by unfold recordL; rw [ht]; exact if_neg hf, RcA_no]
      refine sd_drawn (fun W => AllP W [blk g7 78 [.int .i64 f, .slice P p.length cp]]) (fun _ => true) (by kernel_rfl) 8 rfl ?_
      refine sd_yes2 0 rfl (by exact gd_) (by kernel_rfl) (by kernel_rfl) (by exact nop_) (PuI.all (by exact pv_Jr)) rfl (fun w hw => all_ hw) ?_
      refine sd_yes2 1 rfl (by exact gd_) (by kernel_rfl) (by kernel_rfl) (by exact nop_) (PuI.all (by exact pv_Jr)) rfl (fun w hw => all_ hw) ?_
      refine sd_yes2 2 rfl (by exact gd_) (by kernel_rfl) (by kernel_rfl) (by exact nop_) (PuI.all (by exact pv_Jr)) rfl (fun w hw => all_ hw) ?_
      first | refine sd_yes2 3 rfl (by exact gd_) (by kernel_rfl) (by kernel_rfl) (by exact nop_) (PuI.all (by exact pv_Jr)) rfl (fun w hw => all_ hw) ?_ | refine sd_off2 3 rfl (by exact gd_) (by kernel_rfl) (by kernel_rfl) (by exact nop_) rfl (fun w hw => all_ hw) ?_ | refine sd_off3 3 rfl rfl rfl (by kernel_rfl) (by kernel_rfl) (by exact nop_) rfl (fun w hw => all_ hw) ?_
      first | refine sd_yes2 4 rfl (by exact gd_) (by kernel_rfl) (by kernel_rfl) (by exact nop_) (PuI.all (by exact pv_Jr)) rfl (fun w hw => all_ hw) ?_ | refine sd_off2 4 rfl (by exact gd_) (by kernel_rfl) (by kernel_rfl) (by exact nop_) rfl (fun w hw => all_ hw) ?_ | refine sd_off3 4 rfl rfl rfl (by kernel_rfl) (by kernel_rfl) (by exact nop_) rfl (fun w hw => all_ hw) ?_
      refine sd_one 5 (by kernel_rfl) (sa_sl 5 rfl ?_)
      repeat refine su_Jr ?_
      refine sl_call rfl rfl (by kernel_rfl) rfl Sub.refl (cells_ok (n := 65536) (by decide)) ?_
      rintro _ -
      rw [show ((manyL 65536 : Nat) : Int) = 1366 from rfl]
      refine sl_nil ?_
      refine se_sd (fun _ w hw => all_ hw) ?_
      first | refine sd_yes2 6 rfl (by exact gd_) (by kernel_rfl) (by kernel_rfl) (by exact nop_) (PuI.all (by exact pv_Jr)) rfl (fun w hw => all_ hw) ?_ | refine sd_off2 6 rfl (by exact gd_) (by kernel_rfl) (by kernel_rfl) (by exact nop_) rfl (fun w hw => all_ hw) ?_ | refine sd_off3 6 rfl rfl rfl (by kernel_rfl) (by kernel_rfl) (by exact nop_) rfl (fun w hw => all_ hw) ?_
      refine sd_yes2 7 rfl (by exact gd_) (by kernel_rfl) (by kernel_rfl) (by exact nop_) (PuI.all (by exact pv_Jr)) rfl (fun w hw => all_ hw) ?_
      refine sd_done (by kernel_rfl) ?_
      refine go_Jr ?_
      exact se_ret3 () trivial rfl rfl rfl rfl rfl (by exact sub_)
    replace hf := Classical.not_not.1 hf
    have hX : recordL bs k = (goL bs k f 0 p).map fun out => (out, f + 1) := by unfold recordL; rw [ht]; exact if_pos hf
    generalize recordL bs k = X at hX ⊢
    refine sc_join (fun _ : Unit => [(0, .slice A n c), (1, .int .i64 k), (7, .pointer (some ⟨g7, 0, none⟩)), (27, .bool false)]) (fun _ => blk g7 78 [.int .i64 f, .slice P p.length cp] :: u8o P cp p :: K) (fun _ => True) ?_ ?_
    · refine sd_drawn (fun W => AllP W [blk g7 78 [.int .i64 f, .slice P p.length cp]]) (fun _ => true) (by kernel_rfl) 8 rfl ?_
      refine sd_yes2 0 rfl (by exact gd_) (by kernel_rfl) (by kernel_rfl) (by exact nop_) (PuI.all (by exact pv_Jr)) rfl (fun w hw => all_ hw) ?_
      refine sd_yes2 1 rfl (by exact gd_) (by kernel_rfl) (by kernel_rfl) (by exact nop_) (PuI.all (by exact pv_Jr)) rfl (fun w hw => all_ hw) ?_
      refine sd_yes2 2 rfl (by exact gd_) (by kernel_rfl) (by kernel_rfl) (by exact nop_) (PuI.all (by exact pv_Jr)) rfl (fun w hw => all_ hw) ?_
      first | refine sd_yes2 3 rfl (by exact gd_) (by kernel_rfl) (by kernel_rfl) (by exact nop_) (PuI.all (by exact pv_Jr)) rfl (fun w hw => all_ hw) ?_ | refine sd_off2 3 rfl (by exact gd_) (by kernel_rfl) (by kernel_rfl) (by exact nop_) rfl (fun w hw => all_ hw) ?_ | refine sd_off3 3 rfl rfl rfl (by kernel_rfl) (by kernel_rfl) (by exact nop_) rfl (fun w hw => all_ hw) ?_
      first | refine sd_yes2 4 rfl (by exact gd_) (by kernel_rfl) (by kernel_rfl) (by exact nop_) (PuI.all (by exact pv_Jr)) rfl (fun w hw => all_ hw) ?_ | refine sd_off2 4 rfl (by exact gd_) (by kernel_rfl) (by kernel_rfl) (by exact nop_) rfl (fun w hw => all_ hw) ?_ | refine sd_off3 4 rfl rfl rfl (by kernel_rfl) (by kernel_rfl) (by exact nop_) rfl (fun w hw => all_ hw) ?_
      refine sd_one 5 (by kernel_rfl) (sa_sl 5 rfl ?_)
      repeat refine su_Jr ?_
      refine sl_call rfl rfl (by kernel_rfl) rfl Sub.refl (cells_ok (n := 65536) (by decide)) ?_
      rintro _ -
      rw [show ((manyL 65536 : Nat) : Int) = 1366 from rfl]
      refine sl_nil ?_
      refine se_sd (fun _ w hw => all_ hw) ?_
      first | refine sd_yes2 6 rfl (by exact gd_) (by kernel_rfl) (by kernel_rfl) (by exact nop_) (PuI.all (by exact pv_Jr)) rfl (fun w hw => all_ hw) ?_ | refine sd_off2 6 rfl (by exact gd_) (by kernel_rfl) (by kernel_rfl) (by exact nop_) rfl (fun w hw => all_ hw) ?_ | refine sd_off3 6 rfl rfl rfl (by kernel_rfl) (by kernel_rfl) (by exact nop_) rfl (fun w hw => all_ hw) ?_
      refine sd_yes2 7 rfl (by exact gd_) (by kernel_rfl) (by kernel_rfl) (by exact nop_) (PuI.all (by exact pv_Jr)) rfl (fun w hw => all_ hw) ?_
      refine sd_done (by kernel_rfl) ?_
      exact se_mid () (by exact has_) (by exact sub_) trivial
    rintro _ -
    refine sc_know (fun w hw => (own_len (e := 5) (size := 1) (A := P) hw (by exact at_)).2) ?_
    rintro ⟨l1, l2⟩
    refine go_Jr ?_
    refine sc_for (fun q : Jg => [(0, .slice A n c), (1, .int .i64 k), (7, .pointer (some ⟨g7, 0, none⟩)), (9, .slice q.A q.out.length q.c), (31, .int .i64 f), (32, .int .i64 q.i)]) (fun q => u8o q.A q.d q.out :: blk g7 78 [.int .i64 f, .slice P p.length cp] :: K) (fun q => q.i ≤ f ∧ X = (goL bs k (f - q.i) q.i q.out).map (fun out => (out, f + 1)) ∧ (q.out.length ≤ q.c ∧ q.c ≤ maxLen) ∧ q.out.length ≤ 48 * (q.i + 1)) (fun q => f - q.i) ⟨0, p, P, cp, cp⟩ (by exact has_) (by exact sub_) ⟨Nat.zero_le _, hX, ⟨l1, l2⟩, by show p.length ≤ 48 * (0 + 1); omega⟩ ?_
    rintro ⟨i, out, B, cb, db⟩ ⟨hi, hgo, hcb, hob⟩
    replace hi : i ≤ f := hi
    replace hgo : X = (goL bs k (f - i) i out).map (fun out => (out, f + 1)) := hgo
    replace hcb : out.length ≤ cb ∧ cb ≤ maxLen := hcb
    have hcb1 := hcb.1
    replace hob : out.length ≤ 48 * (i + 1) := hob
    dsimp only
    clear hX
    by_cases hlt : i < f
    · obtain ⟨left, hleft⟩ : ∃ left, f - i = left + 1 := ⟨f - i - 1, by omega⟩
      rw [hleft] at hgo
      refine go_Jr ?_
      refine sl_pu (pu_build (v := .agg #[.int .i64 (f - i), .slice B out.length cb]) rfl (build_jc _ _ _ _)) rfl ?_
      refine go_Jr ?_
      refine sl_alloc rfl rfl rfl ?_; intro g11
      refine go_Jr ?_
      rw [show (k : Int) + 1 + i = ((k + 1 + i : Nat) : Int) by omega]
      have htk2 := take_ok (h.mono (Z' := blk g11 78 [.int .i64 (f - i), .slice B out.length cb] :: u8o B db out :: blk g7 78 [.int .i64 f, .slice P p.length cp] :: K) (by exact sub_)) (k := k + 1 + i) (by omega)
      cases ht2 : takeL bs (k + 1 + i) with
      | none =>
        rw [show X = none from by rw [hgo, goL, ht2]; rfl, RcA_no]
        rw [ht2, TkA_no] at htk2
        refine sl_call rfl rfl (by kernel_rfl) rfl (by exact sub_) htk2 ?_
        rintro _ -
        refine go_Jr ?_
        refine sl_alloc rfl rfl rfl ?_; intro g12
        refine go_Jr ?_
        exact se_ret3 () trivial rfl rfl rfl rfl rfl (by exact sub_)
      | some fp =>
        obtain ⟨f2, p2⟩ := fp
        obtain ⟨hq1, hq2, hq3, hq4⟩ := takeL_some ht2 h.okb
        rw [ht2, TkA_yes] at htk2
        refine sl_call rfl rfl (by kernel_rfl) rfl (by exact sub_) htk2 ?_
        rintro ⟨B2, cb2⟩ -
        by_cases hc1 : f2 ≠ left
        · rw [show X = none from by rw [hgo, goL, ht2]; simp only [hc1, false_and, if_false]; rfl, RcA_no]
          refine go_Jr ?_
          refine sl_alloc rfl rfl rfl ?_; intro g12
          refine go_Jr ?_
          exact se_ret3 () trivial rfl rfl rfl rfl rfl (by exact sub_)
        replace hc1 := Classical.not_not.1 hc1
        by_cases hc2 : out.length ≠ (i + 1) * 48
        · rw [show X = none from by rw [hgo, goL, ht2]; simp only [hc2, and_false, if_false]; rfl, RcA_no]
          refine go_Jr ?_
          refine sl_alloc rfl rfl rfl ?_; intro g12
          refine go_Jr ?_
          exact se_ret3 () trivial rfl rfl rfl rfl rfl (by exact sub_)
        replace hc2 := Classical.not_not.1 hc2
        rw [goL, ht2] at hgo
        simp only [hc1, hc2, and_self, if_true] at hgo
        rw [show left = f - (i + 1) by omega] at hgo
        refine go_Jr ?_
        refine sl_alloc rfl rfl rfl ?_; intro g12
        refine go_Jr ?_
        by_cases hp0 : p2.length = 0
        · obtain rfl : p2 = [] := List.eq_nil_of_length_eq_zero hp0
          rw [List.append_nil] at hgo
          refine sd_drawn (fun W => AllP W [blk g12 78 [.int .i64 f2, .slice B2 ([] : List Int).length cb2]]) (fun _ => true) (by kernel_rfl) 10 rfl ?_
          refine sd_yes2 0 rfl (by exact gd_) (by kernel_rfl) (by kernel_rfl) (by exact nop_) (PuI.all (by exact pv_Jr)) rfl (fun w hw => all_ hw) ?_
          refine sd_yes2 1 rfl (by exact gd_) (by kernel_rfl) (by kernel_rfl) (by exact nop_) (PuI.all (by exact pv_Jr)) rfl (fun w hw => all_ hw) ?_
          refine sd_yes2 2 rfl (by exact gd_) (by kernel_rfl) (by kernel_rfl) (by exact nop_) (PuI.all (by exact pv_Jr)) rfl (fun w hw => all_ hw) ?_
          refine sd_yes2 3 rfl (by exact gd_) (by kernel_rfl) (by kernel_rfl) (by exact nop_) (PuI.all (by exact pv_Jr)) rfl (fun w hw => all_ hw) ?_
          refine sd_yes2 4 rfl (by exact gd_) (by kernel_rfl) (by kernel_rfl) (by exact nop_) (PuI.all (by exact pv_Jr)) rfl (fun w hw => all_ hw) ?_
          refine sd_yes2 5 rfl (by exact gd_) (by kernel_rfl) (by kernel_rfl) (by exact nop_) (PuI.all (by exact pv_Jr)) rfl (fun w hw => all_ hw) ?_
          refine sd_yes2 6 rfl (by exact gd_) (by kernel_rfl) (by kernel_rfl) (by exact nop_) (PuI.all (by exact pv_Jr)) rfl (fun w hw => all_ hw) ?_
          refine sd_yes2 7 rfl (by exact gd_) (by kernel_rfl) (by kernel_rfl) (by exact nop_) (PuI.all (by exact pv_Jr)) rfl (fun w hw => all_ hw) ?_
          refine sd_one 8 (by kernel_rfl) (sa_sl 8 rfl ?_)
          refine sl_app_none rfl (by omega) rfl rfl Try.info5 rfl ?_
          refine sl_nil ?_
          refine se_sd (fun _ w hw => all_ hw) ?_
          refine sd_yes2 9 rfl (by exact gd_) (by kernel_rfl) (by kernel_rfl) (by exact nop_) (PuI.all (by exact pv_Jr)) rfl (fun w hw => all_ hw) ?_
          refine sd_done (by kernel_rfl) ?_
          refine go_Jr ?_
          exact se_round ⟨i + 1, out, B, out.length, db⟩ (by exact has_) (by exact sub_) ⟨hlt, hgo, ⟨Nat.le_refl _, Nat.le_trans hcb.1 hcb.2⟩, by show out.length ≤ 48 * (i + 1 + 1); omega⟩ (by show f - (i + 1) < f - i; omega)
        · refine sd_drawn (fun W => AllP W [blk g12 78 [.int .i64 f2, .slice B2 p2.length cb2]]) (fun _ => true) (by kernel_rfl) 10 rfl ?_
          refine sd_yes2 0 rfl (by exact gd_) (by kernel_rfl) (by kernel_rfl) (by exact nop_) (PuI.all (by exact pv_Jr)) rfl (fun w hw => all_ hw) ?_
          refine sd_yes2 1 rfl (by exact gd_) (by kernel_rfl) (by kernel_rfl) (by exact nop_) (PuI.all (by exact pv_Jr)) rfl (fun w hw => all_ hw) ?_
          refine sd_yes2 2 rfl (by exact gd_) (by kernel_rfl) (by kernel_rfl) (by exact nop_) (PuI.all (by exact pv_Jr)) rfl (fun w hw => all_ hw) ?_
          refine sd_yes2 3 rfl (by exact gd_) (by kernel_rfl) (by kernel_rfl) (by exact nop_) (PuI.all (by exact pv_Jr)) rfl (fun w hw => all_ hw) ?_
          refine sd_yes2 4 rfl (by exact gd_) (by kernel_rfl) (by kernel_rfl) (by exact nop_) (PuI.all (by exact pv_Jr)) rfl (fun w hw => all_ hw) ?_
          refine sd_yes2 5 rfl (by exact gd_) (by kernel_rfl) (by kernel_rfl) (by exact nop_) (PuI.all (by exact pv_Jr)) rfl (fun w hw => all_ hw) ?_
          refine sd_yes2 6 rfl (by exact gd_) (by kernel_rfl) (by kernel_rfl) (by exact nop_) (PuI.all (by exact pv_Jr)) rfl (fun w hw => all_ hw) ?_
          refine sd_yes2 7 rfl (by exact gd_) (by kernel_rfl) (by kernel_rfl) (by exact nop_) (PuI.all (by exact pv_Jr)) rfl (fun w hw => all_ hw) ?_
          refine sd_one 8 (by kernel_rfl) (sa_sl 8 rfl ?_)
          refine sl_app_full rfl (Vw.of_own (e := 5) (c := db) (by exact at_)) (by omega) rfl (Vw.of_own (e := 5) (c := cb2) (by exact at_)) (by omega) rfl Try.info5 (by decide) rfl (by unfold maxLen; omega) (by omega) ?_
          intro g3 c3
          rw [← bytes_app, ← List.length_append]
          refine sl_know (fun w hw => (own_len (e := 5) (size := 1) (A := some ⟨g3, 0, none⟩) hw (by exact at_)).2) ?_
          rintro ⟨l3, l4⟩
          refine sl_nil ?_
          refine se_sd (fun _ w hw => all_ hw) ?_
          refine sd_yes2 9 rfl (by exact gd_) (by kernel_rfl) (by kernel_rfl) (by exact nop_) (PuI.all (by exact pv_Jr)) rfl (fun w hw => all_ hw) ?_
          refine sd_done (by kernel_rfl) ?_
          refine go_Jr ?_
          exact se_round ⟨i + 1, out ++ p2, some ⟨g3, 0, none⟩, c3, c3⟩ (by exact has_) (by exact sub_) ⟨hlt, hgo, ⟨l3, l4⟩, by show (out ++ p2).length ≤ 48 * (i + 1 + 1); rw [List.length_append]; omega⟩ (by show f - (i + 1) < f - i; omega)
    obtain rfl : i = f := by omega
    rw [Nat.sub_self, goL] at hgo
    rw [show X = some (out, i + 1) from hgo, RcA_yes, show ((i + 1 : Nat) : Int) = (i : Int) + 1 by omega]
    refine go_Jr ?_
    ((refine sq_region (by kernel_rfl) (by kernel_rfl) ?_; (repeat refine rq_Jr ?_); refine sq_end ?_))
    refine go_Jr ?_
    exact se_ret3 (B, cb, db) hcb rfl rfl rfl rfl rfl (by exact sub_)
end Go.Proofs.Ytemhhhikopemmaa
