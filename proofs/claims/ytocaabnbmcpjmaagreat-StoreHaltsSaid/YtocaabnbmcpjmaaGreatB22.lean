/- Several texts of one claim, one behind the other (Sks, Gi, Ea, Gl, Skt, Sku). -/
import Derived.Test.YtocaabnbmcpjmaaGreatB21
import Derived.Test.YtocaabnbmcpjmaaGreatB15
import Derived.Test.YtocaabnbmcpjmaaGreatB03
import Derived.Test.YtocaabnbmcpjmaaGreatB05
import Derived.Test.YtocaabnbmcpjmaaGreatB10
set_option linter.unusedVariables false
set_option linter.unusedSimpArgs false
/- Package store: Accept. -/
namespace Go.Proofs.YtocaabnbmcpjmaaGreat
open Go.RowKit Go.MapKept
attribute [local irreducible] Go.Calls Go.Exit.then Go.Exit.inBlock Go.bodyPost Go.Code.wp Go.wpList takeL recordL hashL recL allL decR
/-- What Accept answers. -/
def accE (r : Rl) (lim : Int) (q : StM) (id : Id) (tm : Int) (np ns : Nat) : Int :=
  if hasI q.ss id then 14 else if 16384 < np ∨ 16384 < ns then 4 else if lim - q.ss.length < 1 then 18 else fitsE r q.fs tm
theorem accE_zero {r : Rl} {lim : Int} {q : StM} {id : Id} {tm : Int} {np ns : Nat} (h : accE r lim q id tm np ns = 0) : hasI q.ss id = false ∧ np ≤ 16384 ∧ ns ≤ 16384 ∧ (q.ss.length : Int) < lim ∧ fitsE r q.fs tm = 0 ∧ tm ≤ 1099511627776 := by
  unfold accE at h
  split at h
  · cases h
  · rename_i h1
    split at h
    · cases h
    · split at h
      · cases h
      · refine ⟨by simpa using h1, by omega, by omega, by omega, h, ?_⟩
        unfold fitsE at h
        split at h
        · cases h
        · omega
theorem accE_add {r : Rl} {lim : Int} {q : StM} {id : Id} {tm : Int} {np ns : Nat} (ht : 0 ≤ tm ∧ tm ≤ 18446744073709551615) (h : accE r lim q id tm np ns = 0) : addI lim q.ss ⟨id, tm, 30, ht, by decide⟩ = (0, insAt q.ss ⟨id, tm, 30, ht, by decide⟩) := by
  obtain ⟨h1, h2, h3, h4, h5, h6⟩ := accE_zero h
  unfold addI
  rw [if_neg (by dsimp only; omega), if_neg (by rw [h1]; decide), if_neg (by omega)]
theorem nth_Sks {φ : Prop} (h : φ := by (first | rfl | first | rfl | exact rpC_n16 | exact rpC_n17 | exact rpC_n18 | exact stC9_n9)) : φ := h
theorem mid_Sks {φ : Prop} (h : φ := by (first | first | exact rpC_id | exact stC9_mid | exact stC9_ci | exact Mid.all | exact Mid.all | exact Mid.head)) : φ := h
theorem sz_Sks {φ : Prop} (h : φ := by (first | rfl | ((try simp only [rpC_len, bytes_length, Id.len, Seen.len]); (first | done | rfl); first | done | fail))) : φ := h
theorem one_Sks {φ : Prop} (h : φ := by (first | assumption | exact first | exact one_bytes _ | exact rpC_one rfl rfl | exact Seen.one _ | (simp only [List.mem_cons, List.not_mem_nil, or_false, forall_eq_or_imp, forall_eq]; decide) | exact one_bytes _ | (intro v hv; (repeat (rcases List.mem_cons.1 hv with rfl | hv; rfl)); cases hv))) : φ := h
theorem set_Sks {φ : Prop} (h : φ := by (first | (first | exact rpC_set16 | exact rpC_set17 | exact rpC_set18) | ((repeat (first | exact SetAt.here | apply SetAt.there)); first | done | fail))) : φ := h
theorem cl_Sks {φ : Prop} (h : φ := by first | rfl | exact .t | exact .f | exact .t (by omega) | exact .f (by omega) | exact .u | exact .i (by (first | exact .t (by omega) | exact .f (by omega) | exact .u | exact .i (by omega) | exact .v (by omega) | exact .b (by omega) | exact .w | rfl | omega)) | exact .v (by omega) | exact .b (by omega) | exact .q (by omega) | exact .w | exact .b (by exact at_) rfl (by exact nth_Sks) | exact .w (by exact at_) rfl rfl (by exact sz_Sks) | exact .s (by exact at_) (by exact mid_Sks) rfl rfl (by exact sz_Sks) | exact .z rfl rfl ⟨by kernel_rfl⟩ | exact .b rfl rfl ⟨by kernel_rfl⟩ | exact .a rfl rfl ⟨by kernel_rfl⟩ | exact .o rfl | exact .s | exact .n | exact .p rfl | exact .q rfl | exact .c rfl | exact .d rfl | exact .n rfl rfl (by omega) | exact .a rfl rfl (by omega) | exact .p rfl rfl (by omega) (by omega) | exact .y rfl rfl (by omega) (by omega) | exact .o (by exact at_) (by omega) rfl (by exact nth_Sks) | exact .m (by exact at_) (by omega) (by exact mid_Sks) rfl rfl (by exact sz_Sks) | exact .mlen (by exact at_) rfl | exact .t (by exact at_) rfl rfl (by first | exact True.intro | rfl) (by assumption) | exact .f (by exact at_) rfl rfl (by first | exact True.intro | rfl) (by assumption) rfl | exact .t1 (by exact at_) rfl rfl (by first | exact True.intro | rfl) (by assumption) | exact .f1 (by exact at_) rfl rfl (by first | exact True.intro | rfl) (by assumption) rfl | exact .tk (by exact at_) rfl (by assumption) (by assumption) | exact .fk (by exact at_) rfl (by assumption) (by assumption) rfl | exact .tk1 (by exact at_) rfl (by assumption) (by assumption) | exact .fk1 (by exact at_) rfl (by assumption) (by assumption) rfl | exact .r rfl rfl (by omega) (by omega) (by exact nth_Sks) rfl | exact .s rfl (by omega) (by assumption) | exact at_ | assumption | exact .r rfl rfl | exact .h rfl rfl rfl (by omega) | exact .l rfl rfl rfl (by omega) (by omega) | exact .g rfl rfl rfl rfl (by omega) (by omega) | exact .h rfl rfl (toN_ (by omega)) (by omega) | exact .l rfl rfl (toN_ (by omega)) (by omega) (by omega) | exact .g rfl rfl (toN_ (by omega)) (toN_ (by omega)) (by omega) (by omega) | exact .o (by decide) | exact .f (by decide) | exact .n (by omega) (by first | decide | (show _ ≤ ((64 : Nat) : Int); omega)) | (constructor; (repeat (first | exact .t (by omega) | exact .f (by omega) | exact .u | exact .i (by omega) | exact .v (by omega) | exact .b (by omega) | exact .w | rfl | omega)); first | done | fail) | omega | (show _ ≤ ((64 : Nat) : Int); omega)) : φ := h
theorem pv_Sks {φ : Prop} (h : φ := by constructor; (repeat exact cl_Sks); first | done | fail) : φ := h
theorem su_Sks {φ ψ : Prop} (k : ψ) (h : Hide ψ → φ := by (intro k; (first | refine sl_pu (PuI.sep (by exact pv_Sks)) rfl ?_ | refine sl_yes rfl rfl ?_ | refine sl_no rfl rfl rfl ?_ | refine sl_off rfl rfl rfl ?_ | (fail)); exact k.out)) : φ := h ⟨k⟩
theorem sto_Sks {φ ψ : Prop} (k : ψ) (h : Hide ψ → φ := by (intro k; (first | refine sl_store rfl (by exact pick_) rfl rfl (by kernel_rfl) (by exact set_Sks) ?_ | refine sl_store_whole rfl (by exact pick_) rfl (by exact sz_Sks) (by exact sz_Sks) (by exact one_Sks) ?_); exact k.out)) : φ := h ⟨k⟩
theorem go_Sks {φ ψ : Prop} (k : ψ) (h : Hide ψ → φ := by (intro k; (repeat (first | refine su_Sks ?_ | refine so_ ?_ | refine sto_Sks ?_)); exact k.out)) : φ := h ⟨k⟩
/-- A report taken up. -/
structure AcR where
  q : StM
  f : DF
  ck : Nat
def saP (e : Int) (lim tm : Int) (ht : 0 ≤ tm ∧ tm ≤ 18446744073709551615) (q : StM) (id : Id) (p s : List Int) (ls : List (List Int)) (σ : Nat) : Option AcR → Prop
  | none => e ≠ 0
  | some z => e = 0 ∧ JFl (ls ++ [1 :: rcAcc id tm p s]) σ z.f ∧ ∃ A1 c1 pA pc sA sc, z.q = q.acc lim ⟨id, tm, 30, ht, by decide⟩ A1 c1 ⟨id, tm, pA, pc, p, sA, sc, s, q.cw⟩
def saH (g gd md : Nat) (t : Ta) (r : Rl) (lim limd tm : Int) (q : StM) (id : Id) (p s : List Int) (ls : List (List Int)) (fs : List DF) (ckd : Nat) (K : List Fa) : Option AcR → List Fa
  | none => sF g t r lim q (jC q.gj gd sj (cellsA ls) :: dB gd md limd :: dM md fs ckd :: dS fs :: K)
  | some z => sF g t r lim z.q (jC z.q.gj gd sj (cellsA (ls ++ [1 :: rcAcc id tm p s])) :: dB gd md limd :: dM md [z.f] z.ck :: dS [z.f] :: K)
set_option maxRecDepth 100000 in
set_option maxHeartbeats 8000000 in
theorem sAccept_ok {K : List Fa} {g gd md σ ckd : Nat} {t : Ta} {r : Rl} {lim limd tm : Int} {q : StM} {ls : List (List Int)} {fs : List DF} {id : Id} {pA sA : Option Addr} {p s : List Int} {pc sc : Nat} (hrw : 0 ≤ r.w) (hlm : 0 ≤ lim ∧ lim ≤ 256) (ht : 0 ≤ tm ∧ tm ≤ 18446744073709551615) (hs : Srt q.ss) (hn : q.ss.length ≤ 1000000)
    (hno : hasI q.ss id = false → wfind q.ws id = none) (hpv : Vw K (fun w => Reads w 1 pA p.length (bytes p))) (hsv : Vw K (fun w => Reads w 1 sA s.length (bytes s)))
    (hJ : accE r lim q id tm p.length s.length = 0 → JSt ls fs ckd σ ∧ IsBytes (1 :: rcAcc id tm p s) ∧ (1 :: rcAcc id tm p s).length ≤ 5000 ∧ cellsA ls ≤ 16000 ∧ (((cellsA ls + manyL (1 :: rcAcc id tm p s).length) * 64 : Nat) : Int) ≤ limd ∧ limd ≤ 1048576) :
    Fn Tryz.prog 10 #[.pointer (some ⟨g, 0, none⟩), .agg (rpC id tm (.slice pA p.length pc) (.slice sA s.length sc)).toArray] (sF g t r lim q (jC q.gj gd sj (cellsA ls) :: dB gd md limd :: dM md fs ckd :: dS fs :: K))
      (Ret (saP (accE r lim q id tm p.length s.length) lim tm ht q id p s ls σ) (fun _ => .int .i64 (accE r lim q id tm p.length s.length)) (saH g gd md t r lim limd tm q id p s ls fs ckd K)) := by
  refine fn_enter Tryz.func10 rfl _ Tryz.ntmps10 (by simp) [(0, .pointer (some ⟨g, 0, none⟩)), (1, .agg (rpC id tm (.slice pA p.length pc) (.slice sA s.length sc)).toArray)] (args_of (by simp)) ?_
  refine go_Sks ?_
  refine sl_box rfl rfl rfl ?_; intro g3
  refine go_Sks ?_
  obtain ⟨K1, hK1⟩ : ∃ K1, K1 = jC q.gj gd sj (cellsA ls) :: dB gd md limd :: dM md fs ckd :: dS fs :: K := ⟨_, rfl⟩
  rw [← hK1]
  refine sc_join (α := Nat) (fun _ => [(0, .pointer (some ⟨g, 0, none⟩)), (3, .pointer (some ⟨g3, 0, none⟩)), (6, .bool (hasI q.ss id))]) (fun _ => blk g3 49 (rpC id tm (.slice pA p.length pc) (.slice sA s.length sc)) :: sF g t r lim q K1) (fun _ => True) ?_ ?_
  · refine sd_drawn (fun W => AllP W [sB g t q.gj q.gi q.gb q.mw q.ms q.life, blk g3 49 (rpC id tm (.slice pA p.length pc) (.slice sA s.length sc))]) (fun _ => true) (by kernel_rfl) 13 rfl ?_
    refine sd_yes2 0 rfl (by exact gd_) (by kernel_rfl) (by kernel_rfl) (by exact nop_) (PuI.all (by exact pv_Sks)) rfl (fun w hw => all_ hw) ?_
    refine sd_yes2 1 rfl (by exact gd_) (by kernel_rfl) (by kernel_rfl) (by exact nop_) (PuI.all (by exact pv_Sks)) rfl (fun w hw => all_ hw) ?_
    refine sd_yes2 2 rfl (by exact gd_) (by kernel_rfl) (by kernel_rfl) (by exact nop_) (PuI.all (by exact pv_Sks)) rfl (fun w hw => all_ hw) ?_
    refine sd_yes2 3 rfl (by exact gd_) (by kernel_rfl) (by kernel_rfl) (by exact nop_) (PuI.all (by exact pv_Sks)) rfl (fun w hw => all_ hw) ?_
    refine sd_yes2 4 rfl (by exact gd_) (by kernel_rfl) (by kernel_rfl) (by exact nop_) (PuI.all (by exact pv_Sks)) rfl (fun w hw => all_ hw) ?_
    refine sd_yes2 5 rfl (by exact gd_) (by kernel_rfl) (by kernel_rfl) (by exact nop_) (PuI.all (by exact pv_Sks)) rfl (fun w hw => all_ hw) ?_
    refine sd_two 6 10 (by kernel_rfl) (sa_sl 6 rfl ?_) (sa_sl 10 rfl ?_)
    · refine sl_call rfl rfl (by kernel_rfl) rfl (by exact Sub.cons (by exact pick_) (Sub.cons (by exact pick_) Sub.refl)) (get_ok (x := q.gi) (A := q.iA) (c := q.ic) (lim := lim) (ss := q.ss) id hs hn) ?_
      rintro _ -
      refine sl_nil ?_
      refine se_sd (fun _ w hw => all_ hw) ?_
      refine sd_yes2 7 rfl (by exact gd_) (by kernel_rfl) (by kernel_rfl) (by exact nop_) (PuI.all (by exact pv_Sks)) rfl (fun w hw => all_ hw) ?_
      refine sd_yes2 8 rfl (by exact gd_) (by kernel_rfl) (by kernel_rfl) (by exact nop_) (PuI.all (by exact pv_Sks)) rfl (fun w hw => all_ hw) ?_
      refine sd_yes2 9 rfl (by exact gd_) (by kernel_rfl) (by kernel_rfl) (by exact nop_) (PuI.all (by exact pv_Sks)) rfl (fun w hw => all_ hw) ?_
      refine sd_one 10 (by kernel_rfl) (sa_sl 10 rfl ?_)
      refine sl_alloc rfl rfl rfl ?_; intro g5
      refine sl_nil ?_
      refine se_sd (fun _ w hw => all_ hw) ?_
      refine sd_one 11 (by kernel_rfl) (sa_sl 11 rfl ?_)
      refine sl_store_whole (cl := (gotI q.ss id).cells) rfl (by exact pick_) rfl (by rw [Seen.len]; rfl) (by rw [Seen.len]; rfl) (Seen.one _) ?_
      refine sl_nil ?_
      refine se_sd (fun _ w hw => all_ hw) ?_
      refine sd_yes2 12 rfl (by exact gd_) (by kernel_rfl) (by kernel_rfl) (by exact nop_) (PuI.all (by exact pv_Sks)) rfl (fun w hw => all_ hw) ?_
      refine sd_done (by kernel_rfl) ?_
      exact se_mid 0 (by exact has_) (by exact sub_) trivial
    · refine sl_alloc rfl rfl rfl ?_; intro g5
      refine sl_nil ?_
      refine se_sd (fun _ w hw => all_ hw) ?_
      refine sd_one 6 (by kernel_rfl) (sa_sl 6 rfl ?_)
      refine sl_call rfl rfl (by kernel_rfl) rfl (by exact Sub.cons (by exact pick_) (Sub.cons (by exact pick_) Sub.refl)) (get_ok (x := q.gi) (A := q.iA) (c := q.ic) (lim := lim) (ss := q.ss) id hs hn) ?_
      rintro _ -
      refine sl_nil ?_
      refine se_sd (fun _ w hw => all_ hw) ?_
      refine sd_yes2 7 rfl (by exact gd_) (by kernel_rfl) (by kernel_rfl) (by exact nop_) (PuI.all (by exact pv_Sks)) rfl (fun w hw => all_ hw) ?_
      refine sd_yes2 8 rfl (by exact gd_) (by kernel_rfl) (by kernel_rfl) (by exact nop_) (PuI.all (by exact pv_Sks)) rfl (fun w hw => all_ hw) ?_
      refine sd_yes2 9 rfl (by exact gd_) (by kernel_rfl) (by kernel_rfl) (by exact nop_) (PuI.all (by exact pv_Sks)) rfl (fun w hw => all_ hw) ?_
      refine sd_one 11 (by kernel_rfl) (sa_sl 11 rfl ?_)
      refine sl_store_whole (cl := (gotI q.ss id).cells) rfl (by exact pick_) rfl (by rw [Seen.len]; rfl) (by rw [Seen.len]; rfl) (Seen.one _) ?_
      refine sl_nil ?_
      refine se_sd (fun _ w hw => all_ hw) ?_
      refine sd_yes2 12 rfl (by exact gd_) (by kernel_rfl) (by kernel_rfl) (by exact nop_) (PuI.all (by exact pv_Sks)) rfl (fun w hw => all_ hw) ?_
      refine sd_done (by kernel_rfl) ?_
      exact se_mid 0 (by exact has_) (by exact sub_) trivial
  rintro _ -
  cases hh : hasI q.ss id with
  | true =>
    rw [show accE r lim q id tm p.length s.length = 14 by unfold accE; rw [if_pos hh]]
    refine go_Sks ?_
    exact se_ret1 none (show (_ : Int) ≠ 0 from by decide) rfl rfl (by rw [hK1]; exact sub_)
  | false =>
    by_cases hl : 16384 < p.length ∨ 16384 < s.length
    · rw [show accE r lim q id tm p.length s.length = 4 by unfold accE; rw [if_neg (by rw [hh]; decide), if_pos hl]]
      by_cases hl1 : 16384 < p.length
      · refine go_Sks ?_
        exact se_ret1 none (show (_ : Int) ≠ 0 from by decide) rfl rfl (by rw [hK1]; exact sub_)
      · have hl2 : 16384 < s.length := by omega
        refine go_Sks ?_
        exact se_ret1 none (show (_ : Int) ≠ 0 from by decide) rfl rfl (by rw [hK1]; exact sub_)
    · have hl1 : ¬ 16384 < p.length := by omega
      have hl2 : ¬ 16384 < s.length := by omega
      by_cases h8 : lim - q.ss.length < 1
      · rw [show accE r lim q id tm p.length s.length = 18 by unfold accE; rw [if_neg (by rw [hh]; decide), if_neg hl, if_pos h8]]
        refine go_Sks ?_
        refine sl_call rfl rfl (by kernel_rfl) rfl (by exact Sub.cons (by exact pick_) Sub.refl) (room_ok (x := q.gi) (A := q.iA) (c := q.ic) (n := q.ss.length) hlm hn) ?_
        rintro _ -
        refine go_Sks ?_
        exact se_ret1 none (show (_ : Int) ≠ 0 from by decide) rfl rfl (by rw [hK1]; exact sub_)
      · rw [show accE r lim q id tm p.length s.length = fitsE r q.fs tm by unfold accE; rw [if_neg (by rw [hh]; decide), if_neg hl, if_neg h8]] at hJ ⊢
        refine go_Sks ?_
        refine sl_call rfl rfl (by kernel_rfl) rfl (by exact Sub.cons (by exact pick_) Sub.refl) (room_ok (x := q.gi) (A := q.iA) (c := q.ic) (n := q.ss.length) hlm hn) ?_
        rintro _ -
        refine go_Sks ?_
        refine sc_join (α := Nat) (fun _ => [(0, .pointer (some ⟨g, 0, none⟩)), (3, .pointer (some ⟨g3, 0, none⟩)), (7, .int .i64 (fitsE r q.fs tm))]) (fun _ => blk g3 49 (rpC id tm (.slice pA p.length pc) (.slice sA s.length sc)) :: sF g t r lim q K1) (fun _ => True) ?_ ?_
        · refine sd_drawn (fun W => AllP W [sB g t q.gj q.gi q.gb q.mw q.ms q.life, blk g3 49 (rpC id tm (.slice pA p.length pc) (.slice sA s.length sc))]) (fun _ => true) (by kernel_rfl) 8 rfl ?_
          refine sd_yes2 0 rfl (by exact gd_) (by kernel_rfl) (by kernel_rfl) (by exact nop_) (PuI.all (by exact pv_Sks)) rfl (fun w hw => all_ hw) ?_
          refine sd_yes2 1 rfl (by exact gd_) (by kernel_rfl) (by kernel_rfl) (by exact nop_) (PuI.all (by exact pv_Sks)) rfl (fun w hw => all_ hw) ?_
          refine sd_yes2 2 rfl (by exact gd_) (by kernel_rfl) (by kernel_rfl) (by exact nop_) (PuI.all (by exact pv_Sks)) rfl (fun w hw => all_ hw) ?_
          refine sd_yes2 3 rfl (by exact gd_) (by kernel_rfl) (by kernel_rfl) (by exact nop_) (PuI.all (by exact pv_Sks)) rfl (fun w hw => all_ hw) ?_
          refine sd_yes2 4 rfl (by exact gd_) (by kernel_rfl) (by kernel_rfl) (by exact nop_) (PuI.all (by exact pv_Sks)) rfl (fun w hw => all_ hw) ?_
          refine sd_yes2 5 rfl (by exact gd_) (by kernel_rfl) (by kernel_rfl) (by exact nop_) (PuI.all (by exact pv_Sks)) rfl (fun w hw => all_ hw) ?_
          refine sd_one 6 (by kernel_rfl) (sa_sl 6 rfl ?_)
          refine sl_call rfl rfl (by kernel_rfl) rfl Sub.refl (fits_ok (g := q.gb) (m := q.mb) (ck := q.cb) (t := t) (r := r) (fs := q.fs) (now := tm) (by exact at_) (by exact at_) hrw ht) ?_
          rintro _ -
          refine sl_nil ?_
          refine se_sd (fun _ w hw => all_ hw) ?_
          refine sd_yes2 7 rfl (by exact gd_) (by kernel_rfl) (by kernel_rfl) (by exact nop_) (PuI.all (by exact pv_Sks)) rfl (fun w hw => all_ hw) ?_
          refine sd_done (by kernel_rfl) ?_
          exact se_mid 0 (by exact has_) (by exact sub_) trivial
        rintro _ -
        by_cases hf : fitsE r q.fs tm = 0
        · obtain ⟨hJ1, hJ2, hJ3, hJ4, hJ5, hJ6⟩ := hJ hf
          have haE : accE r lim q id tm p.length s.length = 0 := by unfold accE; rw [if_neg (by rw [hh]; decide), if_neg hl, if_neg h8, hf]
          have haI := accE_add ht haE
          rw [hf]
          refine go_Sks ?_
          subst hK1
          refine sc_join (α := (Option Addr × Nat) × (Option Addr × Nat)) (fun _ => [(0, .pointer (some ⟨g, 0, none⟩)), (3, .pointer (some ⟨g3, 0, none⟩))])
            (fun z => blk g3 49 (rpC id tm (.slice z.1.1 p.length z.1.2) (.slice z.2.1 s.length z.2.2)) :: u8o z.1.1 z.1.2 p :: u8o z.2.1 z.2.2 s :: sF g t r lim q (jC q.gj gd sj (cellsA ls) :: dB gd md limd :: dM md fs ckd :: dS fs :: K)) (fun _ => True) ?_ ?_
          · refine sd_drawn (fun W => AllP W []) (fun _ => true) (by kernel_rfl) 10 rfl ?_
            refine sd_yes2 0 rfl (by exact gd_) (by kernel_rfl) (by kernel_rfl) (by exact nop_) (PuI.all (by exact pv_Sks)) rfl (fun w hw => all_ hw) ?_
            refine sd_yes2 3 rfl (by exact gd_) (by kernel_rfl) (by kernel_rfl) (by exact nop_) (PuI.all (by exact pv_Sks)) rfl (fun w hw => all_ hw) ?_
            refine sd_two 1 4 (by kernel_rfl) (sa_sl 1 rfl ?_) (sa_sl 4 rfl ?_)
            · repeat refine su_Sks ?_
              refine sl_nil ?_
              refine se_sd (fun _ w hw => all_ hw) ?_
              refine sd_two 2 4 (by kernel_rfl) (sa_sl 2 rfl ?_) (sa_sl 4 rfl ?_)
              · refine sl_call rfl rfl (by kernel_rfl) rfl Sub.refl (clone_ok (hpv.mono (by exact sub_)) (by omega)) ?_
                rintro ⟨A1, c1⟩ -
                refine sl_nil ?_
                refine se_sd (fun _ w hw => all_ hw) ?_
                refine sd_one 4 (by kernel_rfl) (sa_sl 4 rfl ?_)
                repeat refine su_Sks ?_
                refine sl_nil ?_
                refine se_sd (fun _ w hw => all_ hw) ?_
                refine sd_one 5 (by kernel_rfl) (sa_sl 5 rfl ?_)
                refine sl_call rfl rfl (by kernel_rfl) rfl Sub.refl (clone_ok (hsv.mono (by exact sub_)) (by omega)) ?_
                rintro ⟨A2, c2⟩ -
                refine sl_nil ?_
                refine se_sd (fun _ w hw => all_ hw) ?_
                refine sd_yes2 6 rfl (by exact gd_) (by kernel_rfl) (by kernel_rfl) (by exact nop_) (PuI.all (by exact pv_Sks)) rfl (fun w hw => all_ hw) ?_
                refine sd_one 7 (by kernel_rfl) (sa_sl 7 rfl ?_)
                refine sto_Sks ?_
                refine sl_nil ?_
                refine se_sd (fun _ w hw => all_ hw) ?_
                refine sd_yes2 8 rfl (by exact gd_) (by kernel_rfl) (by kernel_rfl) (by exact nop_) (PuI.all (by exact pv_Sks)) rfl (fun w hw => all_ hw) ?_
                refine sd_one 9 (by kernel_rfl) (sa_sl 9 rfl ?_)
                refine sto_Sks ?_
                refine sl_nil ?_
                refine se_sd (fun _ w hw => all_ hw) ?_
                refine sd_done (by kernel_rfl) ?_
                exact se_mid ((A1, c1), (A2, c2)) (by exact has_) (by exact sub_) trivial
              · repeat refine su_Sks ?_
                refine sl_nil ?_
                refine se_sd (fun _ w hw => all_ hw) ?_
                refine sd_one 2 (by kernel_rfl) (sa_sl 2 rfl ?_)
                refine sl_call rfl rfl (by kernel_rfl) rfl Sub.refl (clone_ok (hpv.mono (by exact sub_)) (by omega)) ?_
                rintro ⟨A1, c1⟩ -
                refine sl_nil ?_
                refine se_sd (fun _ w hw => all_ hw) ?_
                refine sd_one 5 (by kernel_rfl) (sa_sl 5 rfl ?_)
                refine sl_call rfl rfl (by kernel_rfl) rfl Sub.refl (clone_ok (hsv.mono (by exact sub_)) (by omega)) ?_
                rintro ⟨A2, c2⟩ -
                refine sl_nil ?_
                refine se_sd (fun _ w hw => all_ hw) ?_
                refine sd_yes2 6 rfl (by exact gd_) (by kernel_rfl) (by kernel_rfl) (by exact nop_) (PuI.all (by exact pv_Sks)) rfl (fun w hw => all_ hw) ?_
                refine sd_one 7 (by kernel_rfl) (sa_sl 7 rfl ?_)
                refine sto_Sks ?_
                refine sl_nil ?_
                refine se_sd (fun _ w hw => all_ hw) ?_
                refine sd_yes2 8 rfl (by exact gd_) (by kernel_rfl) (by kernel_rfl) (by exact nop_) (PuI.all (by exact pv_Sks)) rfl (fun w hw => all_ hw) ?_
                refine sd_one 9 (by kernel_rfl) (sa_sl 9 rfl ?_)
                refine sto_Sks ?_
                refine sl_nil ?_
                refine se_sd (fun _ w hw => all_ hw) ?_
                refine sd_done (by kernel_rfl) ?_
                exact se_mid ((A1, c1), (A2, c2)) (by exact has_) (by exact sub_) trivial
            · repeat refine su_Sks ?_
              refine sl_nil ?_
              refine se_sd (fun _ w hw => all_ hw) ?_
              refine sd_one 1 (by kernel_rfl) (sa_sl 1 rfl ?_)
              repeat refine su_Sks ?_
              refine sl_nil ?_
              refine se_sd (fun _ w hw => all_ hw) ?_
              refine sd_one 2 (by kernel_rfl) (sa_sl 2 rfl ?_)
              refine sl_call rfl rfl (by kernel_rfl) rfl Sub.refl (clone_ok (hpv.mono (by exact sub_)) (by omega)) ?_
              rintro ⟨A1, c1⟩ -
              refine sl_nil ?_
              refine se_sd (fun _ w hw => all_ hw) ?_
              refine sd_one 5 (by kernel_rfl) (sa_sl 5 rfl ?_)
              refine sl_call rfl rfl (by kernel_rfl) rfl Sub.refl (clone_ok (hsv.mono (by exact sub_)) (by omega)) ?_
              rintro ⟨A2, c2⟩ -
              refine sl_nil ?_
              refine se_sd (fun _ w hw => all_ hw) ?_
              refine sd_yes2 6 rfl (by exact gd_) (by kernel_rfl) (by kernel_rfl) (by exact nop_) (PuI.all (by exact pv_Sks)) rfl (fun w hw => all_ hw) ?_
              refine sd_one 7 (by kernel_rfl) (sa_sl 7 rfl ?_)
              refine sto_Sks ?_
              refine sl_nil ?_
              refine se_sd (fun _ w hw => all_ hw) ?_
              refine sd_yes2 8 rfl (by exact gd_) (by kernel_rfl) (by kernel_rfl) (by exact nop_) (PuI.all (by exact pv_Sks)) rfl (fun w hw => all_ hw) ?_
              refine sd_one 9 (by kernel_rfl) (sa_sl 9 rfl ?_)
              refine sto_Sks ?_
              refine sl_nil ?_
              refine se_sd (fun _ w hw => all_ hw) ?_
              refine sd_done (by kernel_rfl) ?_
              exact se_mid ((A1, c1), (A2, c2)) (by exact has_) (by exact sub_) trivial
          rintro ⟨⟨A1, c1⟩, ⟨A2, c2⟩⟩ -
          dsimp only
          refine go_Sks ?_
          refine sl_call rfl rfl (by kernel_rfl) rfl (by exact sub_) (note_ok (K := blk g3 49 (rpC id tm (.slice A1 p.length c1) (.slice A2 s.length c2)) :: u8o A1 c1 p :: u8o A2 c2 s :: ixb q.gi q.iA q.ss.length q.ic lim :: ixo q.iA q.ic q.ss :: bB q.gb t r q.mb :: bM q.mb q.fs q.cb :: bS q.fs :: wM q.mw q.ws q.cw :: wS q.ws :: dMm q.ms q.sd q.cs :: dSs q.sd :: K)
            (g := g) (gj := q.gj) (gi := q.gi) (gb := q.gb) (mw := q.mw) (ms := q.ms) (gd := gd) (md := md) (t := t) (life := q.life) (lim := limd) (kind := 1) (f := 52) (caps := [.pointer (some ⟨g3, 0, none⟩)]) (bs := rcAcc id tm p s)
            (by kernel_rfl) hJ1 hJ2 hJ3 hJ4 hJ5 hJ6 (fun b A c => fAcc_ok (by exact at_) ht (Vw.of_own (e := 5) (A := A1) (c := c1) (by exact at_)) (Vw.of_own (e := 5) (A := A2) (c := c2) (by exact at_)) (by omega) (by omega))) ?_
          rintro ⟨f, ck2⟩ hf2
          dsimp only at hf2 ⊢
          have hsa := saccept_ok (K := blk g3 49 (rpC id tm (.slice A1 p.length c1) (.slice A2 s.length c2)) :: bB q.gb t r q.mb :: bM q.mb q.fs q.cb :: bS q.fs :: dMm q.ms q.sd q.cs :: dSs q.sd :: jC q.gj gd sj (cellsA (ls ++ [1 :: rcAcc id tm p s])) :: dB gd md limd :: dM md [f] ck2 :: dS [f] :: K) (g := g) (gj := q.gj) (gi := q.gi) (gb := q.gb) (mw := q.mw) (ms := q.ms) (t := t) (life := q.life) (lim := lim) (iA := q.iA) (ic := q.ic) (ck := q.cw) (ws := q.ws) (pA := A1) (sA := A2) (pc := c1) (sc := c2) (p := p) (s := s) hs hn ht hno
          rw [haI] at hsa
          simp only [↓reduceIte] at hsa
          refine go_Sks ?_
          refine sl_call rfl rfl (by kernel_rfl) rfl (by exact sub_) hsa ?_
          rintro ⟨A3, c3⟩ -
          dsimp only
          have hq2 : q.acc lim ⟨id, tm, 30, ht, by decide⟩ A3 c3 ⟨id, tm, A1, c1, p, A2, c2, s, q.cw⟩ = { q with iA := A3, ic := c3, ss := insAt q.ss ⟨id, tm, 30, ht, by decide⟩, ws := q.ws ++ [⟨id, tm, A1, c1, p, A2, c2, s, q.cw⟩], cw := q.cw + 1 } := by unfold StM.acc; rw [haI]; rfl
          refine go_Sks ?_
          exact se_ret1 (some ⟨_, f, ck2⟩) ⟨rfl, hf2, A3, c3, A1, c1, A2, c2, hq2.symm⟩ rfl rfl (by exact sub_)
        · refine go_Sks ?_
          exact se_ret1 none hf rfl rfl (by rw [hK1]; exact sub_)
end Go.Proofs.YtocaabnbmcpjmaaGreat
/- Package bucket: Add, Close. -/
namespace Go.Proofs.YtocaabnbmcpjmaaGreat
open Go.RowKit Go.MapKept
attribute [local irreducible] Go.Calls Go.Exit.then Go.Exit.inBlock Go.bodyPost Go.Code.wp Go.wpList
attribute [local irreducible] hashL ofId
/-- A report more in a bucket. -/
def BK.add (b : BK) (fl : Int) (id : Id) (ys : List Int) (g : Nat) : BK := ⟨b.st, some ⟨g, 0, none⟩, b.l.length, addV fl b.l ys, b.m + 1, xorI b.k (ofId id), b.cl, b.bn⟩
end Go.Proofs.YtocaabnbmcpjmaaGreat
/- Two arrays of numbers: are they the same? No program is in sight. -/
namespace Go.Proofs.YtocaabnbmcpjmaaGreat
open Go.RowKit
section
variable {P : Program} (w : World)
end
section
variable {P : Program} {C : World → Prop} {n : Nat} {l : Env} {ty t t' e : TypeId} {x y : Operand} {xs ys : List Int} {N : Nat} {k k' : IntKind}
end
end Go.Proofs.YtocaabnbmcpjmaaGreat
/- Package bucket: Close, List of nil; elements compared. -/
namespace Go.Proofs.YtocaabnbmcpjmaaGreat
open Go.RowKit Go.MapKept
attribute [local irreducible] Go.Calls Go.Exit.then Go.Exit.inBlock Go.bodyPost Go.Code.wp Go.wpList
attribute [local irreducible] hashL ofId
section
variable {C : World → Prop} {n : Nat} {l : Env} {ty t' : TypeId} {x y : Operand} {u v : Int}
end
/-- May a window be closed? -/
def closeE (r : Rl) (fs : List BK) (s : Int) : Int := if 1099511627776 < s ∨ stN r.w s ≠ s then 15 else match bfind fs s with
  | none => 19
  | some b => if b.m < r.mn then 17 else 0
def BK.shut (b : BK) : BK := { b with cl := true }
theorem nth_Gl {φ : Prop} (h : φ := by (first | rfl | first | exact bkC_n0 | exact bkC_n1 | exact bkC_n2 | exact bkC_n19' | exact tc_n0 | exact tc_n1)) : φ := h
theorem mid_Gl {φ : Prop} (h : φ := by (first | first | exact boC_mt | exact boC_mr | exact bkC_mid | exact Ta.mid _ | exact tc_mid | exact Mid.all | exact Mid.all | exact Mid.head)) : φ := h
theorem sz_Gl {φ : Prop} (h : φ := by (first | rfl | ((try simp only [bkC_len tc_len, tc_len, BK.len, bytes_length, Id.len]); (first | done | rfl); first | done | fail))) : φ := h
theorem one_Gl {φ : Prop} (h : φ := by (first | assumption | exact first | exact BK.one _ | exact bkC_one tc_one | exact tc_one | exact Ta.one _ | exact Rl.one _ | exact one_bytes _ | (simp only [List.mem_cons, List.not_mem_nil, or_false, forall_eq_or_imp, forall_eq]; decide) | exact one_bytes _ | (intro v hv; (repeat (rcases List.mem_cons.1 hv with rfl | hv; rfl)); cases hv))) : φ := h
theorem set_Gl {φ : Prop} (h : φ := by (first | (first | exact tc_set0 | exact bkC_set19 tc_len) | ((repeat (first | exact SetAt.here | apply SetAt.there)); first | done | fail))) : φ := h
theorem cl_Gl {φ : Prop} (h : φ := by first | rfl | exact .t | exact .f | exact .t (by omega) | exact .f (by omega) | exact .u | exact .i (by (first | exact .t (by omega) | exact .f (by omega) | exact .u | exact .i (by omega) | exact .v (by omega) | exact .b (by omega) | exact .w | rfl | omega)) | exact .v (by omega) | exact .b (by omega) | exact .q (by omega) | exact .w | exact .b (by exact at_) rfl (by exact nth_Gl) | exact .w (by exact at_) rfl rfl (by exact sz_Gl) | exact .s (by exact at_) (by exact mid_Gl) rfl rfl (by exact sz_Gl) | exact .z rfl rfl ⟨by kernel_rfl⟩ | exact .b rfl rfl ⟨by kernel_rfl⟩ | exact .a rfl rfl ⟨by kernel_rfl⟩ | exact .o rfl | exact .s | exact .n | exact .p rfl | exact .q rfl | exact .c rfl | exact .d rfl | exact .n rfl rfl (by omega) | exact .a rfl rfl (by omega) | exact .p rfl rfl (by omega) (by omega) | exact .y rfl rfl (by omega) (by omega) | exact .o (by exact at_) (by omega) rfl (by exact nth_Gl) | exact .m (by exact at_) (by omega) (by exact mid_Gl) rfl rfl (by exact sz_Gl) | exact .mlen (by exact at_) rfl | exact .t (by exact at_) rfl rfl (by first | exact True.intro | rfl) (by assumption) | exact .f (by exact at_) rfl rfl (by first | exact True.intro | rfl) (by assumption) rfl | exact .t1 (by exact at_) rfl rfl (by first | exact True.intro | rfl) (by assumption) | exact .f1 (by exact at_) rfl rfl (by first | exact True.intro | rfl) (by assumption) rfl | exact .r rfl rfl (by omega) (by omega) (by exact nth_Gl) rfl | exact .s rfl (by omega) (by assumption) | exact at_ | assumption | exact .r rfl rfl | exact .h rfl rfl rfl (by omega) | exact .l rfl rfl rfl (by omega) (by omega) | exact .g rfl rfl rfl rfl (by omega) (by omega) | exact .h rfl rfl (toN_ (by omega)) (by omega) | exact .l rfl rfl (toN_ (by omega)) (by omega) (by omega) | exact .g rfl rfl (toN_ (by omega)) (toN_ (by omega)) (by omega) (by omega) | exact .o (by decide) | exact .f (by decide) | exact .n (by omega) (by first | decide | (show _ ≤ ((64 : Nat) : Int); omega)) | (constructor; (repeat (first | exact .t (by omega) | exact .f (by omega) | exact .u | exact .i (by omega) | exact .v (by omega) | exact .b (by omega) | exact .w | rfl | omega)); first | done | fail) | omega | (show _ ≤ ((64 : Nat) : Int); omega)) : φ := h
theorem pv_Gl {φ : Prop} (h : φ := by constructor; (repeat exact cl_Gl); first | done | fail) : φ := h
theorem su_Gl {φ ψ : Prop} (k : ψ) (h : Hide ψ → φ := by (intro k; (first | refine sl_pu (PuI.sep (by exact pv_Gl)) rfl ?_ | refine sl_yes rfl rfl ?_ | refine sl_no rfl rfl rfl ?_ | refine sl_off rfl rfl rfl ?_ | (fail)); exact k.out)) : φ := h ⟨k⟩
theorem rq_Gl {φ ψ : Prop} (k : ψ) (h : Hide ψ → φ := by (intro k; (first | refine wq_pu (PuI.sep (by exact pv_Gl)) rfl ?_ | refine wq_yes rfl rfl ?_ | refine wq_no rfl rfl rfl ?_ | refine wq_off rfl rfl rfl ?_ | (fail)); exact k.out)) : φ := h ⟨k⟩
theorem sto_Gl {φ ψ : Prop} (k : ψ) (h : Hide ψ → φ := by (intro k; (first | refine sl_store rfl (by exact pick_) rfl rfl (by kernel_rfl) (by exact set_Gl) ?_ | refine sl_store_whole rfl (by exact pick_) rfl (by exact sz_Gl) (by exact sz_Gl) (by exact one_Gl) ?_); exact k.out)) : φ := h ⟨k⟩
theorem go_Gl {φ ψ : Prop} (k : ψ) (h : Hide ψ → φ := by (intro k; (repeat (first | refine su_Gl ?_ | refine so_ ?_ | refine sto_Gl ?_)); exact k.out)) : φ := h ⟨k⟩
set_option maxRecDepth 100000 in
set_option maxHeartbeats 4000000 in
theorem close_no {K : List Fa} {g m ck : Nat} {t : Ta} {r : Rl} {fs : List BK} {s : Int} (hB : At (bB g t r m) K) (hM : At (bM m fs ck) K) (hw : 0 ≤ r.w) (h : 0 ≤ s ∧ s ≤ 18446744073709551615) (he : closeE r fs s ≠ 0) :
    Fn Tryz.prog 59 #[.pointer (some ⟨g, 0, none⟩), .int .u64 s] K (Ret (fun _ : Unit => True) (fun _ => .tuple #[.agg tz.toArray, .int .i64 (closeE r fs s)]) (fun _ => K)) := by
  refine fn_enter Tryz.func59 rfl _ Tryz.ntmps59 (by simp) [(0, .pointer (some ⟨g, 0, none⟩)), (1, .int .u64 s)] (args_of (by simp)) ?_
  by_cases h1 : 1099511627776 < s
  · rw [show closeE r fs s = 15 by unfold closeE; rw [if_pos (.inl h1)]]
    refine go_Gl ?_
    refine sl_alloc rfl rfl rfl ?_; intro g1
    refine go_Gl ?_
    refine sl_pu (pu_build (v := .agg tz.toArray) rfl (fun W => by kernel_rfl)) rfl ?_
    refine go_Gl ?_
    exact se_ret_ct () trivial rfl rfl (by exact at_) rfl rfl (by rw [tc_len]; rfl) rfl rfl (by exact sub_)
  by_cases h2 : stN r.w s = s
  case neg =>
    rw [show closeE r fs s = 15 by unfold closeE; rw [if_pos (.inr h2)]]
    refine go_Gl ?_
    refine sl_alloc rfl rfl rfl ?_; intro g1
    refine go_Gl ?_
    refine sl_call rfl rfl (by kernel_rfl) rfl (by exact sub_) (start_ok hw h) ?_; rintro _ -
    refine go_Gl ?_
    refine sl_pu (pu_build (v := .agg tz.toArray) rfl (fun W => by kernel_rfl)) rfl ?_
    refine go_Gl ?_
    exact se_ret_ct () trivial rfl rfl (by exact at_) rfl rfl (by rw [tc_len]; rfl) rfl rfl (by exact sub_)
  have h3 : closeE r fs s = match bfind fs s with
    | none => 19
    | some b => if b.m < r.mn then 17 else 0 := by
    unfold closeE
    rw [if_neg (fun h => h.elim h1 (fun h => h h2))]
  cases hf : bfind fs s with
  | none =>
    have hno := bno hf
    rw [show closeE r fs s = 19 by rw [h3, hf]]
    refine go_Gl ?_
    refine sl_alloc rfl rfl rfl ?_; intro g1
    refine go_Gl ?_
    refine sl_call rfl rfl (by kernel_rfl) rfl (by exact sub_) (start_ok hw h) ?_; rintro _ -
    rw [h2]
    refine go_Gl ?_
    refine sl_alloc rfl rfl rfl ?_; intro g2
    refine go_Gl ?_
    refine sl_pu (pu_build (v := .agg tz.toArray) rfl (fun W => by kernel_rfl)) rfl ?_
    refine go_Gl ?_
    exact se_ret_ct () trivial rfl rfl (by exact at_) rfl rfl (by rw [tc_len]; rfl) rfl rfl (by exact sub_)
  | some b =>
    obtain ⟨hb, hbs⟩ := bfind_some hf
    have hg := bget hb
    rw [hbs] at hg
    have h4 : b.m < r.mn := by
      refine Decidable.byContradiction fun hc => he ?_
      rw [h3, hf]
      exact if_neg hc
    rw [show closeE r fs s = 17 by rw [h3, hf]; exact if_pos h4]
    refine go_Gl ?_
    refine sl_alloc rfl rfl rfl ?_; intro g1
    refine go_Gl ?_
    refine sl_call rfl rfl (by kernel_rfl) rfl (by exact sub_) (start_ok hw h) ?_; rintro _ -
    rw [h2]
    refine go_Gl ?_
    refine sl_alloc rfl rfl rfl ?_; intro g2
    refine go_Gl ?_
    ((refine sq_region (by kernel_rfl) (by kernel_rfl) ?_; (repeat refine rq_Gl ?_); refine sq_end ?_))
    refine go_Gl ?_
    refine sl_pu (pu_build (v := .agg tz.toArray) rfl (fun W => by kernel_rfl)) rfl ?_
    refine go_Gl ?_
    exact se_ret_ct () trivial rfl rfl (by exact at_) rfl rfl (by rw [tc_len]; rfl) rfl rfl (by exact sub_)
end Go.Proofs.YtocaabnbmcpjmaaGreat
/- Package store: methods of nil; Waits, Life. -/
namespace Go.Proofs.YtocaabnbmcpjmaaGreat
open Go.RowKit Go.MapKept
attribute [local irreducible] Go.Calls Go.Exit.then Go.Exit.inBlock Go.bodyPost Go.Code.wp Go.wpList takeL recordL hashL recL allL decR
def rpZ : List Value := rpC id0 0 (.slice none 0 0) (.slice none 0 0)
end Go.Proofs.YtocaabnbmcpjmaaGreat
/- Package store: Waits, Life. -/
namespace Go.Proofs.YtocaabnbmcpjmaaGreat
open Go.RowKit Go.MapKept
attribute [local irreducible] Go.Calls Go.Exit.then Go.Exit.inBlock Go.bodyPost Go.Code.wp Go.wpList takeL recordL hashL recL allL decR
theorem nth_Sku {φ : Prop} (h : φ := by (first | rfl | first | rfl | exact rpC_n16 | exact rpC_n17 | exact rpC_n18 | exact stC9_n9)) : φ := h
theorem mid_Sku {φ : Prop} (h : φ := by (first | first | exact rpC_id | exact stC9_mid | exact stC9_ci | exact Mid.all | exact Mid.all | exact Mid.head)) : φ := h
theorem sz_Sku {φ : Prop} (h : φ := by (first | rfl | ((try simp only [Wt.cells, rpC_len, bkC_len tc_len, tc_len, bytes_length, Id.len, Seen.len]); (first | done | rfl); first | done | fail))) : φ := h
theorem one_Sku {φ : Prop} (h : φ := by (first | assumption | exact first | exact one_bytes _ | exact rpC_one rfl rfl | exact Seen.one _ | exact bkC_one tc_one | exact tc_one | exact Rl.one _ | (simp only [List.mem_cons, List.not_mem_nil, or_false, forall_eq_or_imp, forall_eq]; decide) | exact one_bytes _ | (intro v hv; (repeat (rcases List.mem_cons.1 hv with rfl | hv; rfl)); cases hv))) : φ := h
theorem set_Sku {φ : Prop} (h : φ := by (first | (first | exact rpC_set16 | exact rpC_set17 | exact rpC_set18) | ((repeat (first | exact SetAt.here | apply SetAt.there)); first | done | fail))) : φ := h
theorem cl_Sku {φ : Prop} (h : φ := by first | rfl | exact .t | exact .f | exact .t (by omega) | exact .f (by omega) | exact .u | exact .i (by (first | exact .t (by omega) | exact .f (by omega) | exact .u | exact .i (by omega) | exact .v (by omega) | exact .b (by omega) | exact .w | rfl | omega)) | exact .v (by omega) | exact .b (by omega) | exact .q (by omega) | exact .w | exact .b (by exact at_) rfl (by exact nth_Sku) | exact .w (by exact at_) rfl rfl (by exact sz_Sku) | exact .s (by exact at_) (by exact mid_Sku) rfl rfl (by exact sz_Sku) | exact .z rfl rfl ⟨by kernel_rfl⟩ | exact .b rfl rfl ⟨by kernel_rfl⟩ | exact .a rfl rfl ⟨by kernel_rfl⟩ | exact .o rfl | exact .s | exact .n | exact .p rfl | exact .q rfl | exact .c rfl | exact .d rfl | exact .n rfl rfl (by omega) | exact .a rfl rfl (by omega) | exact .p rfl rfl (by omega) (by omega) | exact .y rfl rfl (by omega) (by omega) | exact .o (by exact at_) (by omega) rfl (by exact nth_Sku) | exact .m (by exact at_) (by omega) (by exact mid_Sku) rfl rfl (by exact sz_Sku) | exact .mlen (by exact at_) rfl | exact .t (by exact at_) rfl rfl (by first | exact True.intro | rfl) (by assumption) | exact .f (by exact at_) rfl rfl (by first | exact True.intro | rfl) (by assumption) rfl | exact .t1 (by exact at_) rfl rfl (by first | exact True.intro | rfl) (by assumption) | exact .f1 (by exact at_) rfl rfl (by first | exact True.intro | rfl) (by assumption) rfl | exact .tk (by exact at_) rfl (by assumption) (by assumption) | exact .fk (by exact at_) rfl (by assumption) (by assumption) rfl | exact .tk1 (by exact at_) rfl (by assumption) (by assumption) | exact .fk1 (by exact at_) rfl (by assumption) (by assumption) rfl | exact .r rfl rfl (by omega) (by omega) (by exact nth_Sku) rfl | exact .s rfl (by omega) (by assumption) | exact at_ | assumption | exact .r rfl rfl | exact .h rfl rfl rfl (by omega) | exact .l rfl rfl rfl (by omega) (by omega) | exact .g rfl rfl rfl rfl (by omega) (by omega) | exact .h rfl rfl (toN_ (by omega)) (by omega) | exact .l rfl rfl (toN_ (by omega)) (by omega) (by omega) | exact .g rfl rfl (toN_ (by omega)) (toN_ (by omega)) (by omega) (by omega) | exact .o (by decide) | exact .f (by decide) | exact .n (by omega) (by first | decide | (show _ ≤ ((64 : Nat) : Int); omega)) | (constructor; (repeat (first | exact .t (by omega) | exact .f (by omega) | exact .u | exact .i (by omega) | exact .v (by omega) | exact .b (by omega) | exact .w | rfl | omega)); first | done | fail) | omega | (show _ ≤ ((64 : Nat) : Int); omega)) : φ := h
theorem pv_Sku {φ : Prop} (h : φ := by constructor; (repeat exact cl_Sku); first | done | fail) : φ := h
theorem su_Sku {φ ψ : Prop} (k : ψ) (h : Hide ψ → φ := by (intro k; (first | refine sl_pu (PuI.sep (by exact pv_Sku)) rfl ?_ | refine sl_yes rfl rfl ?_ | refine sl_no rfl rfl rfl ?_ | refine sl_off rfl rfl rfl ?_ | (fail)); exact k.out)) : φ := h ⟨k⟩
theorem sto_Sku {φ ψ : Prop} (k : ψ) (h : Hide ψ → φ := by (intro k; (first | refine sl_store rfl (by exact pick_) rfl rfl (by kernel_rfl) (by exact set_Sku) ?_ | refine sl_store_whole rfl (by exact pick_) rfl (by exact sz_Sku) (by exact sz_Sku) (by exact one_Sku) ?_); exact k.out)) : φ := h ⟨k⟩
theorem go_Sku {φ ψ : Prop} (k : ψ) (h : Hide ψ → φ := by (intro k; (repeat (first | refine su_Sku ?_ | refine so_ ?_ | refine sto_Sku ?_)); exact k.out)) : φ := h ⟨k⟩
theorem wt_p {L : List Fa} {ws : List Wt} {w : Wt} (h : At (wS ws) L) (hw : w ∈ ws) : Vw L (fun W => Reads W 1 w.pA w.p.length (bytes w.p)) := fun W hW => by
  have h1 : (star [u8o w.pA w.pc w.p, u8o w.sA w.sc w.s]).P W := ks_get (M := WM) h hw W hW
  unfold star at h1
  exact Reads.of_own (own_PK (Sep.mem h1 (f := u8o w.pA w.pc w.p) (by simp)))
theorem wt_s {L : List Fa} {ws : List Wt} {w : Wt} (h : At (wS ws) L) (hw : w ∈ ws) : Vw L (fun W => Reads W 1 w.sA w.s.length (bytes w.s)) := fun W hW => by
  have h1 : (star [u8o w.pA w.pc w.p, u8o w.sA w.sc w.s]).P W := ks_get (M := WM) h hw W hW
  unfold star at h1
  exact Reads.of_own (own_PK (Sep.mem h1 (f := u8o w.sA w.sc w.s) (by simp)))
set_option maxRecDepth 100000 in
theorem sLife_ok {K : List Fa} {g gd n : Nat} {t : Ta} {r : Rl} {lim : Int} {q : StM} {s : ByteArray} (hj : At (jC q.gj gd s n) K) :
    Fn Tryz.prog 19 #[.pointer (some ⟨g, 0, none⟩)] (sF g t r lim q K) (Ret (fun _ : Unit => True) (fun _ => .tuple #[.int .u64 q.life, .int .i64 n]) (fun _ => sF g t r lim q K)) := by
  refine fn_enter Tryz.func19 rfl _ Tryz.ntmps19 (by simp) [(0, .pointer (some ⟨g, 0, none⟩))] (args_of (by simp)) ?_
  refine go_Sku ?_
  refine sd_drawn (fun W => AllP W [sB g t q.gj q.gi q.gb q.mw q.ms q.life]) (fun _ => true) (by kernel_rfl) 11 rfl ?_
  refine sd_yes2 0 rfl (by exact gd_) (by kernel_rfl) (by kernel_rfl) (by exact nop_) (PuI.all (by exact pv_Sku)) rfl (fun w hw => all_ hw) ?_
  refine sd_yes2 1 rfl (by exact gd_) (by kernel_rfl) (by kernel_rfl) (by exact nop_) (PuI.all (by exact pv_Sku)) rfl (fun w hw => all_ hw) ?_
  refine sd_yes2 2 rfl (by exact gd_) (by kernel_rfl) (by kernel_rfl) (by exact nop_) (PuI.all (by exact pv_Sku)) rfl (fun w hw => all_ hw) ?_
  refine sd_yes2 3 rfl (by exact gd_) (by kernel_rfl) (by kernel_rfl) (by exact nop_) (PuI.all (by exact pv_Sku)) rfl (fun w hw => all_ hw) ?_
  refine sd_yes2 4 rfl (by exact gd_) (by kernel_rfl) (by kernel_rfl) (by exact nop_) (PuI.all (by exact pv_Sku)) rfl (fun w hw => all_ hw) ?_
  refine sd_yes2 5 rfl (by exact gd_) (by kernel_rfl) (by kernel_rfl) (by exact nop_) (PuI.all (by exact pv_Sku)) rfl (fun w hw => all_ hw) ?_
  refine sd_yes2 6 rfl (by exact gd_) (by kernel_rfl) (by kernel_rfl) (by exact nop_) (PuI.all (by exact pv_Sku)) rfl (fun w hw => all_ hw) ?_
  refine sd_yes2 7 rfl (by exact gd_) (by kernel_rfl) (by kernel_rfl) (by exact nop_) (PuI.all (by exact pv_Sku)) rfl (fun w hw => all_ hw) ?_
  refine sd_one 8 (by kernel_rfl) (sa_sl 8 rfl ?_)
  refine sl_call rfl rfl (by kernel_rfl) rfl Sub.refl (cells_Jc (gj := q.gj) (g := gd) (n := n) (s := s) (by exact at_)) ?_
  rintro _ -
  refine sl_nil ?_
  refine se_sd (fun _ w hw => all_ hw) ?_
  refine sd_yes2 9 rfl (by exact gd_) (by kernel_rfl) (by kernel_rfl) (by exact nop_) (PuI.all (by exact pv_Sku)) rfl (fun w hw => all_ hw) ?_
  refine sd_yes2 10 rfl (by exact gd_) (by kernel_rfl) (by kernel_rfl) (by exact nop_) (PuI.all (by exact pv_Sku)) rfl (fun w hw => all_ hw) ?_
  refine sd_done (by kernel_rfl) ?_
  refine go_Sku ?_
  exact se_ret2 () trivial rfl rfl rfl rfl (by exact sub_)
set_option maxRecDepth 100000 in
set_option maxHeartbeats 4000000 in
theorem sWaits_yes {K : List Fa} {g : Nat} {t : Ta} {r : Rl} {lim : Int} {q : StM} {x : Wt} (hx : x ∈ q.ws) (hp : x.p.length ≤ 1000000) (hs : x.s.length ≤ 1000000) :
    Fn Tryz.prog 17 #[.pointer (some ⟨g, 0, none⟩), x.id.v] (sF g t r lim q K)
      (Ret (fun _ : (Option Addr × Nat) × (Option Addr × Nat) => True) (fun z => .tuple #[.agg (rpC x.id x.t (.slice z.1.1 x.p.length z.1.2) (.slice z.2.1 x.s.length z.2.2)).toArray, .bool true]) (fun z => u8o z.1.1 z.1.2 x.p :: u8o z.2.1 z.2.2 x.s :: sF g t r lim q K)) := by
  refine fn_enter Tryz.func17 rfl _ Tryz.ntmps17 (by simp) [(0, .pointer (some ⟨g, 0, none⟩)), (1, x.id.v)] (args_of (by simp)) ?_
  have hg : MGet (q.ws.map WM.ent) x.id.v (.agg x.cells.toArray) := kget (M := WM) hx
  have hk := x.id.klaw
  have hcl : x.cells.length = 19 := rpC_len
  refine go_Sku ?_
  refine sl_box rfl rfl rfl ?_; intro g3
  refine sl_alloc rfl rfl rfl ?_; intro g4
  refine go_Sku ?_
  refine sc_join (α := Nat) (fun g6 => [(4, .pointer (some ⟨g4, 0, none⟩)), (6, .pointer (some ⟨g6, 0, none⟩)), (7, .bool true)]) (fun g6 => blk g6 49 x.cells :: blk g4 49 rpZ :: sF g t r lim q K) (fun _ => True) ?_ ?_
  · refine sd_drawn (fun W => AllP W [sB g t q.gj q.gi q.gb q.mw q.ms q.life, blk g3 47 (bytes x.id.l), wM q.mw q.ws q.cw]) (fun _ => true) (by kernel_rfl) 12 rfl ?_
    refine sd_yes2 0 rfl (by exact gd_) (by kernel_rfl) (by kernel_rfl) (by exact nop_) (PuI.all (by exact pv_Sku)) rfl (fun w hw => all_ hw) ?_
    refine sd_yes2 1 rfl (by exact gd_) (by kernel_rfl) (by kernel_rfl) (by exact nop_) (PuI.all (by exact pv_Sku)) rfl (fun w hw => all_ hw) ?_
    refine sd_yes2 2 rfl (by exact gd_) (by kernel_rfl) (by kernel_rfl) (by exact nop_) (PuI.all (by exact pv_Sku)) rfl (fun w hw => all_ hw) ?_
    refine sd_yes2 3 rfl (by exact gd_) (by kernel_rfl) (by kernel_rfl) (by exact nop_) (PuI.all (by exact pv_Sku)) rfl (fun w hw => all_ hw) ?_
    refine sd_yes2 4 rfl (by exact gd_) (by kernel_rfl) (by kernel_rfl) (by exact nop_) (PuI.all (by exact pv_Sku)) rfl (fun w hw => all_ hw) ?_
    refine sd_two 5 9 (by kernel_rfl) (sa_sl 5 rfl ?_) (sa_sl 9 rfl ?_)
    · repeat refine su_Sku ?_
      refine sl_nil ?_
      refine se_sd (fun _ w hw => all_ hw) ?_
      refine sd_yes2 6 rfl (by exact gd_) (by kernel_rfl) (by kernel_rfl) (by exact nop_) (PuI.all (by exact pv_Sku)) rfl (fun w hw => all_ hw) ?_
      refine sd_yes2 7 rfl (by exact gd_) (by kernel_rfl) (by kernel_rfl) (by exact nop_) (PuI.all (by exact pv_Sku)) rfl (fun w hw => all_ hw) ?_
      refine sd_yes2 8 rfl (by exact gd_) (by kernel_rfl) (by kernel_rfl) (by exact nop_) (PuI.all (by exact pv_Sku)) rfl (fun w hw => all_ hw) ?_
      refine sd_one 9 (by kernel_rfl) (sa_sl 9 rfl ?_)
      refine sl_alloc rfl rfl rfl ?_; intro g6
      refine sl_nil ?_
      refine se_sd (fun _ w hw => all_ hw) ?_
      refine sd_one 10 (by kernel_rfl) (sa_sl 10 rfl ?_)
      refine sto_Sku ?_
      refine sl_nil ?_
      refine se_sd (fun _ w hw => all_ hw) ?_
      refine sd_yes2 11 rfl (by exact gd_) (by kernel_rfl) (by kernel_rfl) (by exact nop_) (PuI.all (by exact pv_Sku)) rfl (fun w hw => all_ hw) ?_
      refine sd_done (by kernel_rfl) ?_
      exact se_mid g6 (by exact has_) (by exact sub_) trivial
    · refine sl_alloc rfl rfl rfl ?_; intro g6
      refine sl_nil ?_
      refine se_sd (fun _ w hw => all_ hw) ?_
      refine sd_one 5 (by kernel_rfl) (sa_sl 5 rfl ?_)
      repeat refine su_Sku ?_
      refine sl_nil ?_
      refine se_sd (fun _ w hw => all_ hw) ?_
      refine sd_yes2 6 rfl (by exact gd_) (by kernel_rfl) (by kernel_rfl) (by exact nop_) (PuI.all (by exact pv_Sku)) rfl (fun w hw => all_ hw) ?_
      refine sd_yes2 7 rfl (by exact gd_) (by kernel_rfl) (by kernel_rfl) (by exact nop_) (PuI.all (by exact pv_Sku)) rfl (fun w hw => all_ hw) ?_
      refine sd_yes2 8 rfl (by exact gd_) (by kernel_rfl) (by kernel_rfl) (by exact nop_) (PuI.all (by exact pv_Sku)) rfl (fun w hw => all_ hw) ?_
      refine sd_one 10 (by kernel_rfl) (sa_sl 10 rfl ?_)
      refine sto_Sku ?_
      refine sl_nil ?_
      refine se_sd (fun _ w hw => all_ hw) ?_
      refine sd_yes2 11 rfl (by exact gd_) (by kernel_rfl) (by kernel_rfl) (by exact nop_) (PuI.all (by exact pv_Sku)) rfl (fun w hw => all_ hw) ?_
      refine sd_done (by kernel_rfl) ?_
      exact se_mid g6 (by exact has_) (by exact sub_) trivial
  rintro g6 -
  unfold Wt.cells
  refine go_Sku ?_
  refine sc_join (α := (Option Addr × Nat) × (Option Addr × Nat)) (fun _ => [(4, .pointer (some ⟨g4, 0, none⟩)), (6, .pointer (some ⟨g6, 0, none⟩)), (7, .bool true)])
    (fun z => blk g6 49 (rpC x.id x.t (.slice z.1.1 x.p.length z.1.2) (.slice z.2.1 x.s.length z.2.2)) :: u8o z.1.1 z.1.2 x.p :: u8o z.2.1 z.2.2 x.s :: blk g4 49 rpZ :: sF g t r lim q K) (fun _ => True) ?_ ?_
  · refine sd_drawn (fun W => AllP W []) (fun _ => true) (by kernel_rfl) 10 rfl ?_
    refine sd_yes2 0 rfl (by exact gd_) (by kernel_rfl) (by kernel_rfl) (by exact nop_) (PuI.all (by exact pv_Sku)) rfl (fun w hw => all_ hw) ?_
    refine sd_yes2 3 rfl (by exact gd_) (by kernel_rfl) (by kernel_rfl) (by exact nop_) (PuI.all (by exact pv_Sku)) rfl (fun w hw => all_ hw) ?_
    refine sd_two 1 4 (by kernel_rfl) (sa_sl 1 rfl ?_) (sa_sl 4 rfl ?_)
    · repeat refine su_Sku ?_
      refine sl_nil ?_
      refine se_sd (fun _ w hw => all_ hw) ?_
      refine sd_two 2 4 (by kernel_rfl) (sa_sl 2 rfl ?_) (sa_sl 4 rfl ?_)
      · refine sl_call rfl rfl (by kernel_rfl) rfl Sub.refl (clone_ok (wt_p (ws := q.ws) (by exact at_) hx) (by omega)) ?_
        rintro ⟨A1, c1⟩ -
        refine sl_nil ?_
        refine se_sd (fun _ w hw => all_ hw) ?_
        refine sd_one 4 (by kernel_rfl) (sa_sl 4 rfl ?_)
        repeat refine su_Sku ?_
        refine sl_nil ?_
        refine se_sd (fun _ w hw => all_ hw) ?_
        refine sd_yes2 6 rfl (by exact gd_) (by kernel_rfl) (by kernel_rfl) (by exact nop_) (PuI.all (by exact pv_Sku)) rfl (fun w hw => all_ hw) ?_
        refine sd_one 5 (by kernel_rfl) (sa_sl 5 rfl ?_)
        refine sl_call rfl rfl (by kernel_rfl) rfl Sub.refl (clone_ok (wt_s (ws := q.ws) (by exact at_) hx) (by omega)) ?_
        rintro ⟨A2, c2⟩ -
        refine sl_nil ?_
        refine se_sd (fun _ w hw => all_ hw) ?_
        refine sd_one 7 (by kernel_rfl) (sa_sl 7 rfl ?_)
        refine sto_Sku ?_
        refine sl_nil ?_
        refine se_sd (fun _ w hw => all_ hw) ?_
        refine sd_yes2 8 rfl (by exact gd_) (by kernel_rfl) (by kernel_rfl) (by exact nop_) (PuI.all (by exact pv_Sku)) rfl (fun w hw => all_ hw) ?_
        refine sd_one 9 (by kernel_rfl) (sa_sl 9 rfl ?_)
        refine sto_Sku ?_
        refine sl_nil ?_
        refine se_sd (fun _ w hw => all_ hw) ?_
        refine sd_done (by kernel_rfl) ?_
        exact se_mid ((A1, c1), (A2, c2)) (by exact has_) (by exact sub_) trivial
      · repeat refine su_Sku ?_
        refine sl_nil ?_
        refine se_sd (fun _ w hw => all_ hw) ?_
        refine sd_one 2 (by kernel_rfl) (sa_sl 2 rfl ?_)
        refine sl_call rfl rfl (by kernel_rfl) rfl Sub.refl (clone_ok (wt_p (ws := q.ws) (by exact at_) hx) (by omega)) ?_
        rintro ⟨A1, c1⟩ -
        refine sl_nil ?_
        refine se_sd (fun _ w hw => all_ hw) ?_
        refine sd_yes2 6 rfl (by exact gd_) (by kernel_rfl) (by kernel_rfl) (by exact nop_) (PuI.all (by exact pv_Sku)) rfl (fun w hw => all_ hw) ?_
        refine sd_one 5 (by kernel_rfl) (sa_sl 5 rfl ?_)
        refine sl_call rfl rfl (by kernel_rfl) rfl Sub.refl (clone_ok (wt_s (ws := q.ws) (by exact at_) hx) (by omega)) ?_
        rintro ⟨A2, c2⟩ -
        refine sl_nil ?_
        refine se_sd (fun _ w hw => all_ hw) ?_
        refine sd_one 7 (by kernel_rfl) (sa_sl 7 rfl ?_)
        refine sto_Sku ?_
        refine sl_nil ?_
        refine se_sd (fun _ w hw => all_ hw) ?_
        refine sd_yes2 8 rfl (by exact gd_) (by kernel_rfl) (by kernel_rfl) (by exact nop_) (PuI.all (by exact pv_Sku)) rfl (fun w hw => all_ hw) ?_
        refine sd_one 9 (by kernel_rfl) (sa_sl 9 rfl ?_)
        refine sto_Sku ?_
        refine sl_nil ?_
        refine se_sd (fun _ w hw => all_ hw) ?_
        refine sd_done (by kernel_rfl) ?_
        exact se_mid ((A1, c1), (A2, c2)) (by exact has_) (by exact sub_) trivial
    · repeat refine su_Sku ?_
      refine sl_nil ?_
      refine se_sd (fun _ w hw => all_ hw) ?_
      refine sd_one 1 (by kernel_rfl) (sa_sl 1 rfl ?_)
      repeat refine su_Sku ?_
      refine sl_nil ?_
      refine se_sd (fun _ w hw => all_ hw) ?_
      refine sd_one 2 (by kernel_rfl) (sa_sl 2 rfl ?_)
      refine sl_call rfl rfl (by kernel_rfl) rfl Sub.refl (clone_ok (wt_p (ws := q.ws) (by exact at_) hx) (by omega)) ?_
      rintro ⟨A1, c1⟩ -
      refine sl_nil ?_
      refine se_sd (fun _ w hw => all_ hw) ?_
      refine sd_yes2 6 rfl (by exact gd_) (by kernel_rfl) (by kernel_rfl) (by exact nop_) (PuI.all (by exact pv_Sku)) rfl (fun w hw => all_ hw) ?_
      refine sd_one 5 (by kernel_rfl) (sa_sl 5 rfl ?_)
      refine sl_call rfl rfl (by kernel_rfl) rfl Sub.refl (clone_ok (wt_s (ws := q.ws) (by exact at_) hx) (by omega)) ?_
      rintro ⟨A2, c2⟩ -
      refine sl_nil ?_
      refine se_sd (fun _ w hw => all_ hw) ?_
      refine sd_one 7 (by kernel_rfl) (sa_sl 7 rfl ?_)
      refine sto_Sku ?_
      refine sl_nil ?_
      refine se_sd (fun _ w hw => all_ hw) ?_
      refine sd_yes2 8 rfl (by exact gd_) (by kernel_rfl) (by kernel_rfl) (by exact nop_) (PuI.all (by exact pv_Sku)) rfl (fun w hw => all_ hw) ?_
      refine sd_one 9 (by kernel_rfl) (sa_sl 9 rfl ?_)
      refine sto_Sku ?_
      refine sl_nil ?_
      refine se_sd (fun _ w hw => all_ hw) ?_
      refine sd_done (by kernel_rfl) ?_
      exact se_mid ((A1, c1), (A2, c2)) (by exact has_) (by exact sub_) trivial
  rintro ⟨⟨A1, c1⟩, ⟨A2, c2⟩⟩ -
  dsimp only
  refine go_Sku ?_
  exact se_ret_ct ((A1, c1), (A2, c2)) trivial rfl rfl (by exact at_) rfl rfl (by rw [rpC_len]; rfl) rfl rfl (by exact sub_)
end Go.Proofs.YtocaabnbmcpjmaaGreat
