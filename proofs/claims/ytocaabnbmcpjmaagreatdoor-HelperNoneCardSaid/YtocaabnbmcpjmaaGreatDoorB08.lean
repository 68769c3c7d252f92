/- Several texts of one claim, one behind the other (Ks, Reg4, Ge, Ga, Gb, Gc, Mv, Gd, Ln). -/
import Derived.Test.YtocaabnbmcpjmaaGreatDoorB07
import Derived.Test.YtocaabnbmcpjmaaGreatDoorB04
import Derived.Test.YtocaabnbmcpjmaaGreatDoorB05
import Derived.Laws.Externs
import Derived.Laws.OwnMore
import Derived.Shelf.Small.Bits
set_option linter.unusedVariables false
set_option linter.unusedSimpArgs false
/- Package keccak's sponge: Hash gives some function of the bytes. -/
namespace Go.Proofs.YtocaabnbmcpjmaaGreatDoor
open Go.RowKit
attribute [local irreducible] Go.Calls Go.Exit.then Go.Exit.inBlock Go.bodyPost Go.Code.wp Go.wpList
theorem us_nthp {st : List Int} {p : Int} (h : p.toNat < st.length) : nth (us st) p.toNat = some (.int .u64 (st.getD p.toNat 0)) := by
  rw [nth_eq, us_get h]
def perm (st : List Int) : List Int := perA st 12
theorem perm_len {st : List Int} (h : st.length = 25) : (perm st).length = 25 := perA_len h
/-- The sponge's cells behind its state. -/
def spT (ap dom : Int) (gv : Bool) : List Value := [.int .i64 ap, .int .u8 dom, .bool gv]
theorem us_tl0 {st : List Int} {tl : List Value} {i : Nat} (h : st.length = 25) (h2 : 25 ≤ i) : nth (us st ++ tl) i = nth tl (i - 25) := by
  rw [nth_eq, nth_eq, List.getElem?_append_right (by rw [us_len]; omega), us_len, h]
theorem us_set_tl {st : List Int} {tl r : List Value} {i : Nat} {v : Value} (h : st.length = 25) (h2 : 25 ≤ i) (hs : SetAt (i - 25) v tl r) : SetAt i v (us st ++ tl) (us st ++ r) := by
  have h1 := SetAt.tail (a := us st) (b := tl) (i := i - 25) (k := 25) (v := v) (r := r) (by rw [us_len, h]) hs
  rwa [show 25 + (i - 25) = i by omega] at h1
theorem nth_Ks {φ : Prop} (h : φ := by (first | rfl | first | exact us_nth (by first | omega | (simp only [benS_len]; omega)) | exact us_nthp (by rw [con_len]; omega) | exact (us_tl0 (by first | assumption | omega) (by decide)).trans rfl)) : φ := h
theorem mid_Ks {φ : Prop} (h : φ := by (first | exact Mid.all | exact Mid.all | exact Mid.head)) : φ := h
theorem sz_Ks {φ : Prop} (h : φ := by (first | rfl | ((simp only [us_len, *]; rfl); first | done | fail))) : φ := h
theorem one_Ks {φ : Prop} (h : φ := by (first | assumption | exact us_one | (simp only [List.mem_cons, List.not_mem_nil, or_false, forall_eq_or_imp, forall_eq]; decide) | exact one_bytes _ | (intro v hv; (repeat (rcases List.mem_cons.1 hv with rfl | hv; rfl)); cases hv))) : φ := h
theorem set_Ks {φ : Prop} (h : φ := by (first | (first | exact us_set (by first | omega | (simp only [benS_len]; omega)) | exact us_set_tl (by first | assumption | omega) (by decide) (by (repeat (first | exact SetAt.here | apply SetAt.there)); first | done | fail)) | ((repeat (first | exact SetAt.here | apply SetAt.there)); first | done | fail))) : φ := h
theorem cl_Ks {φ : Prop} (h : φ := by first | rfl | exact .t | exact .f | exact .t (by omega) | exact .f (by omega) | exact .u | exact .i (by (first | exact .t (by omega) | exact .f (by omega) | exact .u | exact .i (by omega) | exact .v (by omega) | exact .b (by omega) | exact .w | rfl | omega)) | exact .v (by omega) | exact .b (by omega) | exact .q (by omega) | exact .w | exact .b (by exact at_) rfl (by exact nth_Ks) | exact .w (by exact at_) rfl rfl (by exact sz_Ks) | exact .s (by exact at_) (by exact mid_Ks) rfl rfl (by exact sz_Ks) | exact .z rfl rfl ⟨by kernel_rfl⟩ | exact .b rfl rfl ⟨by kernel_rfl⟩ | exact .a rfl rfl ⟨by kernel_rfl⟩ | exact .o rfl | exact .s | exact .n | exact .p rfl | exact .q rfl | exact .c rfl | exact .d rfl | exact .n rfl rfl (by omega) | exact .a rfl rfl (by omega) | exact .p rfl rfl (by omega) (by omega) | exact .y rfl rfl (by omega) (by omega) | exact .o (by exact at_) (by omega) rfl (by exact nth_Ks) | exact .m (by exact at_) (by omega) (by exact mid_Ks) rfl rfl (by exact sz_Ks) | exact .mlen (by exact at_) rfl | exact .t (by exact at_) rfl rfl (by first | exact True.intro | rfl) (by assumption) | exact .f (by exact at_) rfl rfl (by first | exact True.intro | rfl) (by assumption) rfl | exact .t1 (by exact at_) rfl rfl (by first | exact True.intro | rfl) (by assumption) | exact .f1 (by exact at_) rfl rfl (by first | exact True.intro | rfl) (by assumption) rfl | exact .tk (by exact at_) rfl (by assumption) (by assumption) | exact .fk (by exact at_) rfl (by assumption) (by assumption) rfl | exact .tk1 (by exact at_) rfl (by assumption) (by assumption) | exact .fk1 (by exact at_) rfl (by assumption) (by assumption) rfl | exact .r rfl rfl (by omega) (by omega) (by exact nth_Ks) rfl | exact .s rfl (by omega) (by assumption) | exact at_ | assumption | exact .r rfl rfl | exact .h rfl rfl rfl (by omega) | exact .l rfl rfl rfl (by omega) (by omega) | exact .g rfl rfl rfl rfl (by omega) (by omega) | exact .h rfl rfl (toN_ (by omega)) (by omega) | exact .l rfl rfl (toN_ (by omega)) (by omega) (by omega) | exact .g rfl rfl (toN_ (by omega)) (toN_ (by omega)) (by omega) (by omega) | exact .o (by decide) | exact .f (by decide) | exact .n (by omega) (by first | decide | (show _ ≤ ((64 : Nat) : Int); omega)) | (constructor; (repeat (first | exact .t (by omega) | exact .f (by omega) | exact .u | exact .i (by omega) | exact .v (by omega) | exact .b (by omega) | exact .w | rfl | omega)); first | done | fail) | omega | (show _ ≤ ((64 : Nat) : Int); omega)) : φ := h
theorem pv_Ks {φ : Prop} (h : φ := by constructor; (repeat exact cl_Ks); first | done | fail) : φ := h
theorem su_Ks {φ ψ : Prop} (k : ψ) (h : Hide ψ → φ := by (intro k; (first | refine sl_pu (PuI.sep (by exact pv_Ks)) rfl ?_ | refine sl_yes rfl rfl ?_ | refine sl_no rfl rfl rfl ?_ | refine sl_off rfl rfl rfl ?_ | (fail)); exact k.out)) : φ := h ⟨k⟩
theorem sto_Ks {φ ψ : Prop} (k : ψ) (h : Hide ψ → φ := by (intro k; (first | refine sl_store rfl (by exact pick_) rfl rfl (by kernel_rfl) (by exact set_Ks) ?_ | refine sl_store_whole rfl (by exact pick_) rfl (by exact sz_Ks) (by exact sz_Ks) (by exact one_Ks) ?_); exact k.out)) : φ := h ⟨k⟩
theorem go_Ks {φ ψ : Prop} (k : ψ) (h : Hide ψ → φ := by (intro k; (repeat (first | refine su_Ks ?_ | refine so_ ?_ | refine sto_Ks ?_)); exact k.out)) : φ := h ⟨k⟩
set_option maxRecDepth 100000 in
set_option maxHeartbeats 4000000 in
theorem perm_ok {K : List Fa} {g : Nat} {t : TypeId} {st : List Int} {tl : List Value} (hl : st.length = 25) :
    Fn Tryz.prog 179 #[.pointer (some ⟨g, 0, none⟩)] (blk g t (us st ++ tl) :: K) (Ret (fun _ : Unit => True) (fun _ => .tuple #[]) (fun _ => blk g t (us (perm st) ++ tl) :: K)) := by
  refine fn_enter Tryz.func179 rfl _ Tryz.ntmps179 (by simp) [(0, .pointer (some ⟨g, 0, none⟩))] (args_of (by simp)) ?_
  refine go_Ks ?_
  refine sl_call rfl rfl (by kernel_rfl) rfl (by exact sub_) consts_ok ?_
  rintro _ -
  refine go_Ks ?_
  refine sc_for (fun k : Nat => [(0, .pointer (some ⟨g, 0, none⟩)), (6, .agg (us conL).toArray), (7, .int .i64 k)]) (fun k => blk g t (us (perA st k) ++ tl) :: K) (fun k => k ≤ 12) (fun k => 12 - k) 0 (by exact has_) (by exact sub_) (by omega) ?_
  intro k hk
  by_cases hlt : k < 12
  · refine go_Ks ?_
    refine sl_call rfl rfl (by kernel_rfl) rfl (by exact sub_) (mix_ok (perA_len hl)) ?_
    rintro _ -
    refine go_Ks ?_
    refine sl_call rfl rfl (by kernel_rfl) rfl (by exact sub_) (move_ok (mixS_len (perA_len hl))) ?_
    rintro _ -
    refine go_Ks ?_
    refine sl_call rfl rfl (by kernel_rfl) rfl (by exact sub_) (bend_ok movS_len) ?_
    rintro _ -
    refine go_Ks ?_
    refine sd_drawn (fun W => AllP W [blk g t (us (benS (movS (mixS (perA st k)))) ++ tl)]) (fun i => !(List.contains [8] i)) (by kernel_rfl) 9 rfl ?_
    refine sd_yes2 0 rfl (by exact gd_) (by kernel_rfl) (by kernel_rfl) (by exact nop_) (PuI.all (by exact pv_Ks)) rfl (fun w hw => all_ hw) ?_
    refine sd_yes2 1 rfl (by exact gd_) (by kernel_rfl) (by kernel_rfl) (by exact nop_) (PuI.all (by exact pv_Ks)) rfl (fun w hw => all_ hw) ?_
    refine sd_yes2 2 rfl (by exact gd_) (by kernel_rfl) (by kernel_rfl) (by exact nop_) (PuI.all (by exact pv_Ks)) rfl (fun w hw => all_ hw) ?_
    refine sd_yes2 3 rfl (by exact gd_) (by kernel_rfl) (by kernel_rfl) (by exact nop_) (PuI.all (by exact pv_Ks)) rfl (fun w hw => all_ hw) ?_
    refine sd_yes2 4 rfl (by exact gd_) (by kernel_rfl) (by kernel_rfl) (by exact nop_) (PuI.all (by exact pv_Ks)) rfl (fun w hw => all_ hw) ?_
    refine sd_yes2 5 rfl (by exact gd_) (by kernel_rfl) (by kernel_rfl) (by exact nop_) (PuI.all (by exact pv_Ks)) rfl (fun w hw => all_ hw) ?_
    refine sd_yes2 6 rfl (by exact gd_) (by kernel_rfl) (by kernel_rfl) (by exact nop_) (PuI.all (by exact pv_Ks)) rfl (fun w hw => all_ hw) ?_
    refine sd_yes2 7 rfl (by exact gd_) (by kernel_rfl) (by kernel_rfl) (by exact nop_) (PuI.all (by exact pv_Ks)) rfl (fun w hw => all_ hw) ?_
    refine sd_one 8 (by kernel_rfl) (sa_sl 8 rfl ?_)
    refine sto_Ks ?_
    refine sl_nil ?_
    refine se_sd (fun h => absurd h (by decide)) ?_
    refine sd_done (by kernel_rfl) ?_
    refine go_Ks ?_
    exact se_round (k + 1) (by exact has_) (by exact sub_) hlt (by omega)
  obtain rfl : k = 12 := by omega
  rw [show perm st = perA st 12 from rfl]
  generalize perA st 12 = so
  refine go_Ks ?_
  exact se_end0 () trivial rfl rfl (by exact sub_)
attribute [irreducible] perm
/-- One byte more, at a place. -/
def flp (st : List Int) (ap c : Int) : List Int := st.set (ap / 8).toNat (bits .xor .u64 (st.getD (ap / 8).toNat 0) (IntKind.u64.wrap (c * 2 ^ (8 * (ap % 8)).toNat)))
theorem flp_len {st : List Int} {ap c : Int} : (flp st ap c).length = st.length := by simp [flp]
set_option maxRecDepth 100000 in
set_option maxHeartbeats 4000000 in
theorem flip_ok {K : List Fa} {g : Nat} {t : TypeId} {st : List Int} {tl : List Value} {ap c : Int} (hl : st.length = 25) (h0 : 0 ≤ ap) (h1 : ap < 200) (hc : 0 ≤ c ∧ c < 256) :
    Fn Tryz.prog 180 #[.pointer (some ⟨g, 0, none⟩), .int .i64 ap, .int .u8 c] (blk g t (us st ++ tl) :: K) (Ret (fun _ : Unit => True) (fun _ => .tuple #[]) (fun _ => blk g t (us (flp st ap c) ++ tl) :: K)) := by
  refine fn_enter Tryz.func180 rfl _ Tryz.ntmps180 (by simp) [(0, .pointer (some ⟨g, 0, none⟩)), (1, .int .i64 ap), (2, .int .u8 c)] (args_of (by simp)) ?_
  refine go_Ks ?_
  refine sd_drawn (fun W => AllP W [blk g t (us st ++ tl)]) (fun i => !(List.contains [17] i)) (by kernel_rfl) 18 rfl ?_
  refine sd_yes2 0 rfl (by exact gd_) (by kernel_rfl) (by kernel_rfl) (by exact nop_) (PuI.all (by exact pv_Ks)) rfl (fun w hw => all_ hw) ?_
  refine sd_yes2 1 rfl (by exact gd_) (by kernel_rfl) (by kernel_rfl) (by exact nop_) (PuI.all (by exact pv_Ks)) rfl (fun w hw => all_ hw) ?_
  refine sd_yes2 2 rfl (by exact gd_) (by kernel_rfl) (by kernel_rfl) (by exact nop_) (PuI.all (by exact pv_Ks)) rfl (fun w hw => all_ hw) ?_
  refine sd_yes2 3 rfl (by exact gd_) (by kernel_rfl) (by kernel_rfl) (by exact nop_) (PuI.all (by exact pv_Ks)) rfl (fun w hw => all_ hw) ?_
  refine sd_yes2 4 rfl (by exact gd_) (by kernel_rfl) (by kernel_rfl) (by exact nop_) (PuI.all (by exact pv_Ks)) rfl (fun w hw => all_ hw) ?_
  refine sd_yes2 5 rfl (by exact gd_) (by kernel_rfl) (by kernel_rfl) (by exact nop_) (PuI.all (by exact pv_Ks)) rfl (fun w hw => all_ hw) ?_
  refine sd_yes2 6 rfl (by exact gd_) (by kernel_rfl) (by kernel_rfl) (by exact nop_) (PuI.all (by exact pv_Ks)) rfl (fun w hw => all_ hw) ?_
  refine sd_yes2 7 rfl (by exact gd_) (by kernel_rfl) (by kernel_rfl) (by exact nop_) (PuI.all (by exact pv_Ks)) rfl (fun w hw => all_ hw) ?_
  refine sd_yes2 8 rfl (by exact gd_) (by kernel_rfl) (by kernel_rfl) (by exact nop_) (PuI.all (by exact pv_Ks)) rfl (fun w hw => all_ hw) ?_
  refine sd_yes2 9 rfl (by exact gd_) (by kernel_rfl) (by kernel_rfl) (by exact nop_) (PuI.all (by exact pv_Ks)) rfl (fun w hw => all_ hw) ?_
  refine sd_yes2 10 rfl (by exact gd_) (by kernel_rfl) (by kernel_rfl) (by exact nop_) (PuI.all (by exact pv_Ks)) rfl (fun w hw => all_ hw) ?_
  refine sd_yes2 11 rfl (by exact gd_) (by kernel_rfl) (by kernel_rfl) (by exact nop_) (PuI.all (by exact pv_Ks)) rfl (fun w hw => all_ hw) ?_
  refine sd_yes2 12 rfl (by exact gd_) (by kernel_rfl) (by kernel_rfl) (by exact nop_) (PuI.all (by exact pv_Ks)) rfl (fun w hw => all_ hw) ?_
  refine sd_yes2 13 rfl (by exact gd_) (by kernel_rfl) (by kernel_rfl) (by exact nop_) (PuI.all (by exact pv_Ks)) rfl (fun w hw => all_ hw) ?_
  refine sd_yes2 14 rfl (by exact gd_) (by kernel_rfl) (by kernel_rfl) (by exact nop_) (PuI.all (by exact pv_Ks)) rfl (fun w hw => all_ hw) ?_
  refine sd_yes2 15 rfl (by exact gd_) (by kernel_rfl) (by kernel_rfl) (by exact nop_) (PuI.all (by exact pv_Ks)) rfl (fun w hw => all_ hw) ?_
  refine sd_yes2 16 rfl (by exact gd_) (by kernel_rfl) (by kernel_rfl) (by exact nop_) (PuI.all (by exact pv_Ks)) rfl (fun w hw => all_ hw) ?_
  refine sd_one 17 (by kernel_rfl) (sa_sl 17 rfl ?_)
  refine sto_Ks ?_
  refine sl_nil ?_
  refine se_sd (fun h => absurd h (by decide)) ?_
  refine sd_done (by kernel_rfl) ?_
  refine go_Ks ?_
  exact se_end0 () trivial rfl rfl (by exact sub_)
def z25 : List Int := [0, 0, 0, 0, 0, 0, 0, 0, 0, 0, 0, 0, 0, 0, 0, 0, 0, 0, 0, 0, 0, 0, 0, 0, 0]
theorem z25_len : z25.length = 25 := rfl
theorem build_sp (dom : Int) (W : World) : (Instr.build 284 #[(2, .int .u8 dom)]).run Tryz.prog W = .ok (.agg (us z25 ++ spT 0 dom false).toArray) W := by kernel_rfl
attribute [irreducible] z25
set_option maxRecDepth 100000 in
set_option maxHeartbeats 4000000 in
theorem newSp_ok {K : List Fa} {dom : Int} (h0 : 1 ≤ dom) (h1 : dom ≤ 127) :
    Fn Tryz.prog 156 #[.int .u8 dom] K (Ret (fun _ : Nat => True) (fun g => .pointer (some ⟨g, 0, none⟩)) (fun g => blk g 284 (us z25 ++ spT 0 dom false) :: K)) := by
  refine fn_enter Tryz.func156 rfl _ Tryz.ntmps156 (by simp) [(0, .int .u8 dom)] (args_of (by simp)) ?_
  refine go_Ks ?_
  refine sl_pu (pu_build (v := .agg (us z25 ++ spT 0 dom false).toArray) rfl (build_sp dom)) rfl ?_
  refine sl_box rfl rfl rfl ?_
  intro g
  refine go_Ks ?_
  exact se_ret1 g trivial rfl rfl (by exact sub_)
def wr1 (p : List Int × Int) (c : Int) : List Int × Int := if p.2 = 168 then (flp (perm p.1) 0 c, 1) else (flp p.1 p.2 c, p.2 + 1)
def wrL (bs : List Int) (p : List Int × Int) : List Int × Int := bs.foldl wr1 p
theorem wrL_snoc (bs : List Int) (c : Int) (p : List Int × Int) : wrL (bs ++ [c]) p = wr1 (wrL bs p) c := by simp [wrL]
theorem wr1_ok {p : List Int × Int} (c : Int) (h : p.1.length = 25 ∧ 0 ≤ p.2 ∧ p.2 ≤ 168) : (wr1 p c).1.length = 25 ∧ 0 ≤ (wr1 p c).2 ∧ (wr1 p c).2 ≤ 168 := by
  unfold wr1
  split
  · exact ⟨by rw [flp_len, perm_len h.1], by show (0 : Int) ≤ 1; decide, by show (1 : Int) ≤ 168; decide⟩
  · exact ⟨by rw [flp_len, h.1], by show 0 ≤ p.2 + 1; omega, by show p.2 + 1 ≤ 168; omega⟩
theorem wrL_ok : ∀ (bs : List Int) {p : List Int × Int}, p.1.length = 25 ∧ 0 ≤ p.2 ∧ p.2 ≤ 168 → (wrL bs p).1.length = 25 ∧ 0 ≤ (wrL bs p).2 ∧ (wrL bs p).2 ≤ 168
  | [], _, h => h
  | c :: r, p, h => wrL_ok r (p := wr1 p c) (wr1_ok c h)
theorem take_snoc {bs : List Int} {k : Nat} (h : k < bs.length) : bs.take (k + 1) = bs.take k ++ [bs[k]] := by
  rw [List.take_succ_eq_append_getElem h]
theorem bytes_nth1 {xs : List Int} {k : Nat} (h : k < xs.length) : nth (bytes xs) (k * 1) = some (.int .u8 xs[k]) := by
  rw [Nat.mul_one, bytes_at h]
set_option maxRecDepth 100000 in
set_option maxHeartbeats 4000000 in
theorem writeSp_ok {K : List Fa} {g n c : Nat} {A : Option Addr} {bs : List Int} {t : TypeId} {st : List Int} {a dom : Int} (hr : Vw K (fun w => Reads w 1 A n (bytes bs))) (hn : bs.length = n) (hb : IsBytes bs) (hm : n ≤ 70368744177664) (hp : st.length = 25 ∧ 0 ≤ a ∧ a ≤ 168) :
    Fn Tryz.prog 157 #[.pointer (some ⟨g, 0, none⟩), .slice A n c] (blk g t (us st ++ spT a dom false) :: K) (Ret (fun _ : Unit => True) (fun _ => .tuple #[]) (fun _ => blk g t (us (wrL bs (st, a)).1 ++ spT (wrL bs (st, a)).2 dom false) :: K)) := by
  refine fn_enter Tryz.func157 rfl _ Tryz.ntmps157 (by simp) [(0, .pointer (some ⟨g, 0, none⟩)), (1, .slice A n c)] (args_of (by simp)) ?_
  obtain ⟨hl, h0, h1⟩ := hp
  refine go_Ks ?_
  refine sc_for (fun p : Nat × List Int × Int => [(0, .pointer (some ⟨g, 0, none⟩)), (14, .slice A n c), (15, .int .i64 n), (16, .int .i64 p.1)]) (fun p => blk g t (us p.2.1 ++ spT p.2.2 dom false) :: K) (fun p => p.1 ≤ n ∧ p.2 = wrL (bs.take p.1) (st, a)) (fun p => n - p.1) (0, st, a) (by exact has_) (by exact sub_) ⟨Nat.zero_le _, rfl⟩ ?_
  rintro ⟨k, s, q⟩ ⟨hk, hs⟩
  replace hk : k ≤ n := hk
  replace hs : (s, q) = wrL (bs.take k) (st, a) := hs
  obtain ⟨hs1, hq0, hq1⟩ : s.length = 25 ∧ 0 ≤ q ∧ q ≤ 168 := by
    have := wrL_ok (bs.take k) (p := (st, a)) ⟨hl, h0, h1⟩
    rw [← hs] at this
    exact this
  dsimp only
  by_cases hlt : k < n
  · have hlt' : k < bs.length := by omega
    have hc := hb _ (List.getElem_mem hlt')
    have hstep : wr1 (s, q) bs[k] = wrL (bs.take (k + 1)) (st, a) := by rw [take_snoc hlt', wrL_snoc, hs]
    refine sc_know (vw_form (hr.mono (L' := blk g t (us s ++ spT q dom false) :: K) (by exact sub_)) (by omega)) ?_
    rintro ⟨ad, rfl⟩
    refine go_Ks ?_
    refine sl_pu (pu_ldr (hr.mono (by exact sub_)) (by omega) rfl rfl (bytes_nth1 hlt')) rfl ?_
    by_cases hq : q = 168
    · subst hq
      refine go_Ks ?_
      refine sl_call rfl rfl (by kernel_rfl) rfl (by exact sub_) (perm_ok hs1) ?_
      rintro _ -
      have hs2 := perm_len hs1
      refine go_Ks ?_
      refine sl_call rfl rfl (by kernel_rfl) rfl (by exact sub_) (flip_ok (tl := spT 0 dom false) hs2 (by omega) (by omega) hc) ?_
      rintro _ -
      have hs3 : (flp (perm s) 0 bs[k]).length = 25 := by rw [flp_len, hs2]
      refine go_Ks ?_
      exact se_round (k + 1, flp (perm s) 0 bs[k], 1) (by exact has_) (by exact sub_) ⟨hlt, by rw [← hstep]; rfl⟩ (by show n - (k + 1) < n - k; omega)
    · refine go_Ks ?_
      refine sl_call rfl rfl (by kernel_rfl) rfl (by exact sub_) (flip_ok (tl := spT q dom false) hs1 (by omega) (by omega) hc) ?_
      rintro _ -
      have hs3 : (flp s q bs[k]).length = 25 := by rw [flp_len, hs1]
      refine go_Ks ?_
      exact se_round (k + 1, flp s q bs[k], q + 1) (by exact has_) (by exact sub_) ⟨hlt, by rw [← hstep]; exact (if_neg hq).symm⟩ (by show n - (k + 1) < n - k; omega)
  obtain rfl : k = n := by omega
  rw [List.take_of_length_le (by omega)] at hs
  rw [← hs]
  refine go_Ks ?_
  exact se_end0 () trivial rfl rfl (by exact sub_)
def endQ (p : List Int × Int) : List Int × Int := if p.2 = 168 then (perm p.1, 0) else p
def endS (dom : Int) (p : List Int × Int) : List Int := perm (flp (flp (endQ p).1 (endQ p).2 dom) 167 128)
theorem endQ_ok {p : List Int × Int} (h : p.1.length = 25 ∧ 0 ≤ p.2 ∧ p.2 ≤ 168) : (endQ p).1.length = 25 ∧ 0 ≤ (endQ p).2 ∧ (endQ p).2 < 168 := by
  unfold endQ
  split
  · exact ⟨perm_len h.1, by show (0 : Int) ≤ 0; decide, by show (0 : Int) < 168; decide⟩
  · exact ⟨h.1, h.2.1, by omega⟩
theorem endS_len {dom : Int} {p : List Int × Int} (h : p.1.length = 25 ∧ 0 ≤ p.2 ∧ p.2 ≤ 168) : (endS dom p).length = 25 := perm_len (by rw [flp_len, flp_len, (endQ_ok h).1])
set_option maxRecDepth 100000 in
set_option maxHeartbeats 4000000 in
theorem endSp_ok {K : List Fa} {g : Nat} {t : TypeId} {st : List Int} {a dom : Int} (hd : 0 ≤ dom ∧ dom < 256) (hp : st.length = 25 ∧ 0 ≤ a ∧ a ≤ 168) :
    Fn Tryz.prog 181 #[.pointer (some ⟨g, 0, none⟩)] (blk g t (us st ++ spT a dom false) :: K) (Ret (fun _ : Unit => True) (fun _ => .tuple #[]) (fun _ => blk g t (us (endS dom (st, a)) ++ spT 0 dom true) :: K)) := by
  refine fn_enter Tryz.func181 rfl _ Tryz.ntmps181 (by simp) [(0, .pointer (some ⟨g, 0, none⟩))] (args_of (by simp)) ?_
  have hq := endQ_ok (p := (st, a)) hp
  obtain ⟨hl, h0, h1⟩ := hp
  refine go_Ks ?_
  refine sc_join (fun _ : Unit => [(0, .pointer (some ⟨g, 0, none⟩))]) (fun _ => blk g t (us (endQ (st, a)).1 ++ spT (endQ (st, a)).2 dom false) :: K) (fun _ => True) ?_ ?_
  · by_cases ha : a = 168
    · subst ha
      refine go_Ks ?_
      refine sl_call rfl rfl (by kernel_rfl) rfl (by exact sub_) (perm_ok hl) ?_
      rintro _ -
      have hs2 := perm_len hl
      refine go_Ks ?_
      exact se_mid () (by exact has_) (by exact sub_) trivial
    · have he : endQ (st, a) = (st, a) := if_neg ha
      rw [decide_eq_false ha]
      refine go_Ks ?_
      exact se_mid () (by exact has_) (by rw [he]; exact sub_) trivial
  rintro _ -
  unfold endS
  generalize endQ (st, a) = p at hq ⊢
  obtain ⟨s, q⟩ := p
  obtain ⟨hs, hq0, hq1⟩ := hq
  replace hs : s.length = 25 := hs
  replace hq0 : 0 ≤ q := hq0
  replace hq1 : q < 168 := hq1
  dsimp only
  refine go_Ks ?_
  refine sd_drawn (fun W => AllP W [blk g t (us s ++ spT q dom false)]) (fun i => !(List.contains [9] i)) (by kernel_rfl) 10 rfl ?_
  refine sd_yes2 0 rfl (by exact gd_) (by kernel_rfl) (by kernel_rfl) (by exact nop_) (PuI.all (by exact pv_Ks)) rfl (fun w hw => all_ hw) ?_
  refine sd_yes2 1 rfl (by exact gd_) (by kernel_rfl) (by kernel_rfl) (by exact nop_) (PuI.all (by exact pv_Ks)) rfl (fun w hw => all_ hw) ?_
  refine sd_yes2 2 rfl (by exact gd_) (by kernel_rfl) (by kernel_rfl) (by exact nop_) (PuI.all (by exact pv_Ks)) rfl (fun w hw => all_ hw) ?_
  refine sd_yes2 3 rfl (by exact gd_) (by kernel_rfl) (by kernel_rfl) (by exact nop_) (PuI.all (by exact pv_Ks)) rfl (fun w hw => all_ hw) ?_
  refine sd_yes2 4 rfl (by exact gd_) (by kernel_rfl) (by kernel_rfl) (by exact nop_) (PuI.all (by exact pv_Ks)) rfl (fun w hw => all_ hw) ?_
  refine sd_yes2 5 rfl (by exact gd_) (by kernel_rfl) (by kernel_rfl) (by exact nop_) (PuI.all (by exact pv_Ks)) rfl (fun w hw => all_ hw) ?_
  refine sd_yes2 6 rfl (by exact gd_) (by kernel_rfl) (by kernel_rfl) (by exact nop_) (PuI.all (by exact pv_Ks)) rfl (fun w hw => all_ hw) ?_
  refine sd_yes2 7 rfl (by exact gd_) (by kernel_rfl) (by kernel_rfl) (by exact nop_) (PuI.all (by exact pv_Ks)) rfl (fun w hw => all_ hw) ?_
  refine sd_yes2 8 rfl (by exact gd_) (by kernel_rfl) (by kernel_rfl) (by exact nop_) (PuI.all (by exact pv_Ks)) rfl (fun w hw => all_ hw) ?_
  refine sd_one 9 (by kernel_rfl) (sa_sl 9 rfl ?_)
  refine sl_call rfl rfl (by kernel_rfl) rfl (by exact sub_) (flip_ok (tl := spT q dom false) hs (by omega) (by omega) hd) ?_
  rintro _ -
  refine sl_nil ?_
  refine se_sd (fun h => absurd h (by decide)) ?_
  refine sd_done (by kernel_rfl) ?_
  refine go_Ks ?_
  refine sl_call rfl rfl (by kernel_rfl) rfl (by exact sub_) (flip_ok (tl := spT q dom false) (by rw [flp_len, hs]) (by omega) (by omega) (by omega)) ?_
  rintro _ -
  refine go_Ks ?_
  refine sl_call rfl rfl (by kernel_rfl) rfl (by exact sub_) (perm_ok (by rw [flp_len, flp_len, hs])) ?_
  rintro _ -
  have hs3 : (perm (flp (flp s q dom) 167 128)).length = 25 := perm_len (by rw [flp_len, flp_len, hs])
  refine go_Ks ?_
  exact se_end0 () trivial rfl rfl (by exact sub_)
/-- One byte out. -/
def rd1 (p : List Int × Int × List Int) : List Int × Int × List Int := ((endQ (p.1, p.2.1)).1, (endQ (p.1, p.2.1)).2 + 1, p.2.2 ++ [IntKind.u8.wrap ((endQ (p.1, p.2.1)).1.getD ((endQ (p.1, p.2.1)).2 / 8).toNat 0 / 2 ^ (8 * ((endQ (p.1, p.2.1)).2 % 8)).toNat)])
def rdL (s : List Int) : Nat → List Int × Int × List Int
  | 0 => (s, 0, [])
  | k + 1 => rd1 (rdL s k)
theorem rdL_ok {s : List Int} (h : s.length = 25) : ∀ k, (rdL s k).1.length = 25 ∧ 0 ≤ (rdL s k).2.1 ∧ (rdL s k).2.1 ≤ 168 ∧ (rdL s k).2.2.length = k ∧ IsBytes (rdL s k).2.2
  | 0 => ⟨h, by show (0 : Int) ≤ 0; decide, by show (0 : Int) ≤ 168; decide, rfl, fun x hx => by cases hx⟩
  | k + 1 => by
    obtain ⟨h1, h2, h3, h4, h5⟩ := rdL_ok h k
    have hq := endQ_ok (p := ((rdL s k).1, (rdL s k).2.1)) ⟨h1, h2, h3⟩
    refine ⟨hq.1, ?_, ?_, ?_, ?_⟩
    · show 0 ≤ (endQ ((rdL s k).1, (rdL s k).2.1)).2 + 1
      omega
    · show (endQ ((rdL s k).1, (rdL s k).2.1)).2 + 1 ≤ 168
      omega
    · show ((rdL s k).2.2 ++ [_]).length = k + 1
      simp [h4]
    · refine IsBytes.app h5 (fun x hx => ?_)
      rw [List.mem_singleton] at hx
      subst hx
      rw [IntKind.wrap_u8]
      omega
set_option maxRecDepth 100000 in
set_option maxHeartbeats 4000000 in
theorem readSp_ok {K : List Fa} {g n : Nat} {t : TypeId} {st : List Int} {a dom : Int} (hd : 0 ≤ dom ∧ dom < 256) (hn : n ≤ 65536) (hp : st.length = 25 ∧ 0 ≤ a ∧ a ≤ 168) :
    Fn Tryz.prog 158 #[.pointer (some ⟨g, 0, none⟩), .int .i64 n] (blk g t (us st ++ spT a dom false) :: K) (Ret (fun _ : Option Addr × Nat => True) (fun p => .slice p.1 n p.2) (fun p => own 5 1 p.1 n p.2 (bytes (rdL (endS dom (st, a)) n).2.2) :: K)) := by
  refine fn_enter Tryz.func158 rfl _ Tryz.ntmps158 (by simp) [(0, .pointer (some ⟨g, 0, none⟩)), (1, .int .i64 n)] (args_of (by simp)) ?_
  have hl := hp.1
  have hes := endS_len (dom := dom) (p := (st, a)) hp
  refine go_Ks ?_
  refine sl_call rfl rfl (by kernel_rfl) rfl (by exact sub_) (endSp_ok hd hp) ?_
  rintro _ -
  generalize endS dom (st, a) = s at hes ⊢
  have hm : (if (65536 : Int) < (n : Int) then (65536 : Int) else n) = n := if_neg (by omega)
  refine go_Ks ?_
  rw [hm]
  refine sl_make (lo := .tmp 0) (i := default) (k := 0) rfl rfl rfl Tryz.info5 (by omega) (by omega) (by unfold maxLen; omega) rfl ?_
  intro go
  rw [show ((madeCells (Value.int .u8 0).cells (n * 1)).toList.take (0 * 1)) = [] from rfl]
  refine go_Ks ?_
  rw [hm]
  refine go_Ks ?_
  refine sc_for (fun p : Nat × Option Addr × Nat => [(0, .pointer (some ⟨g, 0, none⟩)), (5, .slice p.2.1 p.1 p.2.2), (23, .int .i64 n), (24, .int .i64 p.1)]) (fun p => own 5 1 p.2.1 p.1 p.2.2 (bytes (rdL s p.1).2.2) :: blk g t (us (rdL s p.1).1 ++ spT (rdL s p.1).2.1 dom true) :: K) (fun p => p.1 ≤ n) (fun p => n - p.1) (0, some ⟨go, 0, none⟩, n) (by exact has_) (by exact sub_) (Nat.zero_le _) ?_
  rintro ⟨k, A, c⟩ hk
  replace hk : k ≤ n := hk
  dsimp only
  by_cases hlt : k < n
  · obtain ⟨r1, r2, r3, r4, r5⟩ := rdL_ok hes k
    have hst : rdL s (k + 1) = rd1 (rdL s k) := rfl
    generalize rdL s k = p at *
    obtain ⟨s1, q, out⟩ := p
    replace r1 : s1.length = 25 := r1
    replace r2 : 0 ≤ q := r2
    replace r3 : q ≤ 168 := r3
    replace r4 : out.length = k := r4
    dsimp only
    have hq := endQ_ok (p := (s1, q)) ⟨r1, r2, r3⟩
    refine go_Ks ?_
    refine sc_join (fun _ : Unit => [(0, .pointer (some ⟨g, 0, none⟩)), (5, .slice A k c), (23, .int .i64 n), (24, .int .i64 k)]) (fun _ => own 5 1 A k c (bytes out) :: blk g t (us (endQ (s1, q)).1 ++ spT (endQ (s1, q)).2 dom true) :: K) (fun _ => True) ?_ ?_
    · by_cases ha : q = 168
      · subst ha
        refine go_Ks ?_
        refine sl_call rfl rfl (by kernel_rfl) rfl (by exact sub_) (perm_ok r1) ?_
        rintro _ -
        have hs2 := perm_len r1
        refine go_Ks ?_
        exact se_mid () (by exact has_) (by exact sub_) trivial
      · have he : endQ (s1, q) = (s1, q) := if_neg ha
        rw [decide_eq_false ha]
        refine go_Ks ?_
        exact se_mid () (by exact has_) (by rw [he]; exact sub_) trivial
    rintro _ -
    have hst' : rdL s (k + 1) = ((endQ (s1, q)).1, (endQ (s1, q)).2 + 1, out ++ [IntKind.u8.wrap ((endQ (s1, q)).1.getD ((endQ (s1, q)).2 / 8).toNat 0 / 2 ^ (8 * ((endQ (s1, q)).2 % 8)).toNat)]) := hst
    clear hst
    generalize endQ (s1, q) = e at *
    obtain ⟨s2, q2⟩ := e
    obtain ⟨e1, e2, e3⟩ := hq
    replace e1 : s2.length = 25 := e1
    replace e2 : 0 ≤ q2 := e2
    replace e3 : q2 < 168 := e3
    dsimp only at hst' ⊢
    refine go_Ks ?_
    refine sd_drawn (fun W => AllP W [blk g t (us s2 ++ spT q2 dom true)]) (fun _ => true) (by kernel_rfl) 22 rfl ?_
    refine sd_yes2 0 rfl (by exact gd_) (by kernel_rfl) (by kernel_rfl) (by exact nop_) (PuI.all (by exact pv_Ks)) rfl (fun w hw => all_ hw) ?_
    refine sd_yes2 1 rfl (by exact gd_) (by kernel_rfl) (by kernel_rfl) (by exact nop_) (PuI.all (by exact pv_Ks)) rfl (fun w hw => all_ hw) ?_
    refine sd_yes2 2 rfl (by exact gd_) (by kernel_rfl) (by kernel_rfl) (by exact nop_) (PuI.all (by exact pv_Ks)) rfl (fun w hw => all_ hw) ?_
    refine sd_yes2 3 rfl (by exact gd_) (by kernel_rfl) (by kernel_rfl) (by exact nop_) (PuI.all (by exact pv_Ks)) rfl (fun w hw => all_ hw) ?_
    refine sd_yes2 4 rfl (by exact gd_) (by kernel_rfl) (by kernel_rfl) (by exact nop_) (PuI.all (by exact pv_Ks)) rfl (fun w hw => all_ hw) ?_
    refine sd_yes2 5 rfl (by exact gd_) (by kernel_rfl) (by kernel_rfl) (by exact nop_) (PuI.all (by exact pv_Ks)) rfl (fun w hw => all_ hw) ?_
    refine sd_yes2 6 rfl (by exact gd_) (by kernel_rfl) (by kernel_rfl) (by exact nop_) (PuI.all (by exact pv_Ks)) rfl (fun w hw => all_ hw) ?_
    refine sd_yes2 7 rfl (by exact gd_) (by kernel_rfl) (by kernel_rfl) (by exact nop_) (PuI.all (by exact pv_Ks)) rfl (fun w hw => all_ hw) ?_
    refine sd_yes2 8 rfl (by exact gd_) (by kernel_rfl) (by kernel_rfl) (by exact nop_) (PuI.all (by exact pv_Ks)) rfl (fun w hw => all_ hw) ?_
    refine sd_yes2 9 rfl (by exact gd_) (by kernel_rfl) (by kernel_rfl) (by exact nop_) (PuI.all (by exact pv_Ks)) rfl (fun w hw => all_ hw) ?_
    refine sd_yes2 10 rfl (by exact gd_) (by kernel_rfl) (by kernel_rfl) (by exact nop_) (PuI.all (by exact pv_Ks)) rfl (fun w hw => all_ hw) ?_
    refine sd_yes2 11 rfl (by exact gd_) (by kernel_rfl) (by kernel_rfl) (by exact nop_) (PuI.all (by exact pv_Ks)) rfl (fun w hw => all_ hw) ?_
    refine sd_yes2 12 rfl (by exact gd_) (by kernel_rfl) (by kernel_rfl) (by exact nop_) (PuI.all (by exact pv_Ks)) rfl (fun w hw => all_ hw) ?_
    refine sd_yes2 13 rfl (by exact gd_) (by kernel_rfl) (by kernel_rfl) (by exact nop_) (PuI.all (by exact pv_Ks)) rfl (fun w hw => all_ hw) ?_
    refine sd_yes2 14 rfl (by exact gd_) (by kernel_rfl) (by kernel_rfl) (by exact nop_) (PuI.all (by exact pv_Ks)) rfl (fun w hw => all_ hw) ?_
    refine sd_yes2 15 rfl (by exact gd_) (by kernel_rfl) (by kernel_rfl) (by exact nop_) (PuI.all (by exact pv_Ks)) rfl (fun w hw => all_ hw) ?_
    refine sd_yes2 16 rfl (by exact gd_) (by kernel_rfl) (by kernel_rfl) (by exact nop_) (PuI.all (by exact pv_Ks)) rfl (fun w hw => all_ hw) ?_
    refine sd_yes2 17 rfl (by exact gd_) (by kernel_rfl) (by kernel_rfl) (by exact nop_) (PuI.all (by exact pv_Ks)) rfl (fun w hw => all_ hw) ?_
    refine sd_yes2 18 rfl (by exact gd_) (by kernel_rfl) (by kernel_rfl) (by exact nop_) (PuI.all (by exact pv_Ks)) rfl (fun w hw => all_ hw) ?_
    refine sd_one 19 (by kernel_rfl) (sa_sl 19 rfl ?_)
    refine sl_build (size := 1) (e := 5) (cells := bytes [IntKind.u8.wrap (s2.getD (q2 / 8).toNat 0 / 2 ^ (8 * (q2 % 8)).toNat)]) rfl (fun W => by kernel_rfl) rfl (by decide) rfl ?_
    intro gb
    refine sl_nil ?_
    refine se_sd (fun _ w hw => all_ hw) ?_
    refine sd_one 20 (by kernel_rfl) (sa_sl 20 rfl ?_)
    refine sl_app rfl (by exact pick_) rfl (Vw.of_own (by exact at_)) (one_bytes _) rfl Tryz.info5 (by decide) (by decide) rfl (by unfold maxLen; omega) (by omega) ?_
    intro A2 c2
    rw [← bytes_app]
    refine sl_nil ?_
    refine se_sd (fun _ w hw => all_ hw) ?_
    refine sd_yes2 21 rfl (by exact gd_) (by kernel_rfl) (by kernel_rfl) (by exact nop_) (PuI.all (by exact pv_Ks)) rfl (fun w hw => all_ hw) ?_
    refine sd_done (by kernel_rfl) ?_
    refine go_Ks ?_
    exact se_round (k + 1, A2, c2) (by exact has_) (by rw [hst']; exact sub_) hlt (by show n - (k + 1) < n - k; omega)
  obtain rfl : k = n := by omega
  refine go_Ks ?_
  exact se_ret1 (A, c) trivial rfl rfl (by exact sub_)
def hashL (dom : Int) (bs : List Int) (n : Nat) : List Int := (rdL (endS dom (wrL bs (z25, 0))) n).2.2
theorem z_ok : z25.length = 25 ∧ (0 : Int) ≤ 0 ∧ (0 : Int) ≤ 168 := ⟨z25_len, by decide, by decide⟩
theorem hashL_ok (dom : Int) (bs : List Int) (n : Nat) : (hashL dom bs n).length = n ∧ IsBytes (hashL dom bs n) := (rdL_ok (endS_len (dom := dom) (wrL_ok bs (p := (z25, 0)) z_ok)) n).2.2.2
set_option maxRecDepth 100000 in
set_option maxHeartbeats 4000000 in
theorem hash_ok {K : List Fa} {m c n : Nat} {A : Option Addr} {bs : List Int} {dom : Int} (h0 : 1 ≤ dom) (h1 : dom ≤ 127) (hn : n ≤ 65536) (hr : Vw K (fun w => Reads w 1 A m (bytes bs))) (hb : IsBytes bs) (hl : bs.length = m) (hm : m ≤ 70368744177664) :
    Fn Tryz.prog 130 #[.int .u8 dom, .slice A m c, .int .i64 n] K (Ret (fun _ : Option Addr × Nat => True) (fun p => .slice p.1 n p.2) (fun p => own 5 1 p.1 n p.2 (bytes (hashL dom bs n)) :: K)) := by
  refine fn_enter Tryz.func130 rfl _ Tryz.ntmps130 (by simp) [(0, .int .u8 dom), (1, .slice A m c), (2, .int .i64 n)] (args_of (by simp)) ?_
  refine go_Ks ?_
  refine sl_call rfl rfl (by kernel_rfl) rfl (by exact sub_) (newSp_ok h0 h1) ?_
  rintro g -
  refine go_Ks ?_
  refine sl_call rfl rfl (by kernel_rfl) rfl (by exact sub_) (writeSp_ok hr hl hb hm z_ok) ?_
  rintro _ -
  refine go_Ks ?_
  have hw := wrL_ok bs (p := (z25, 0)) z_ok
  refine sl_call rfl rfl (by kernel_rfl) rfl (by exact sub_) (readSp_ok (by omega) hn hw) ?_
  rintro ⟨A2, c2⟩ -
  refine go_Ks ?_
  exact se_ret1 (A2, c2) trivial rfl rfl (by exact sub_)
end Go.Proofs.YtocaabnbmcpjmaaGreatDoor
/- In a region that draws: an operation whose guard itself was passed by. -/
namespace Go.Proofs.YtocaabnbmcpjmaaGreatDoor
open Go.RowKit
section
variable {P : Program} {ops : Array Oper} {Q : Exit → Act → World → Prop} {S : World → Prop} {need : Nat → Bool} {fuel : Nat} {listed : Array Bool} {n : Nat} {l : Env} {L : List Fa} {d : Tmp} {op : Op} {ty : TypeId} {pos : String} {after : Array Edge}
theorem sd_off3 (i : Nat) {j t : Nat} {b : Bool} (hi : ops[i]? = some ⟨some d, op, ty, pos, after, some (j, b)⟩) (hj : (ops[j]?).bind (·.dst) = some t) (ht : lk l t = some undef) (hB : freeOk ops listed i = true) (hN : stayOk2 ops listed need i = true)
    (hQ : NoP Q) (hd : Nat.blt d n = true) (hS : ∀ w, Sep w L → S w) (h : SD P ops Q S need fuel (listed.setIfInBounds i true) n ((d, undef) :: l) L) : SD P ops Q S need (fuel + 1) listed n l L := sd_of fun w hw => by
  have h1 := h.to hw
  unfold WD at h1 ⊢
  intro a hs
  have hwant : Region.wanted ⟨some d, op, ty, pos, after, some (j, b)⟩ (yielded ops a.tmps) = false := by
    have h2 : ((none : Option Bool) == some b) = false := rfl
    simp only [Region.wanted, hs.unyield hj ht, h2]
  obtain ⟨b1, b2, b3⟩ := freeOk_spec hB
  exact wpAnyD_first2 (R := fun j => ∃ f, waitsFor ops listed i f j = true) hi (Region.noSelect_spec b1) (fun c a w => hQ c a _ _ w) (fun j oj ⟨f, hf⟩ hj => waitsFor_edge hf hj) fuel listed a w (fun j oj hj hji hun hnR => stayOk2_spec hN j oj hj hji hun hnR) (fun j ⟨f, hf⟩ => waitsFor_un hf) (Region.free_spec hi b2) (by simpa using b3) (.inr ⟨hwant, rfl⟩) (hS w hw) (h1 _ (hs.put hd undef))
end
end Go.Proofs.YtocaabnbmcpjmaaGreatDoor
/- Package total: an id's check; two checks as one. -/
namespace Go.Proofs.YtocaabnbmcpjmaaGreatDoor
open Go.RowKit
attribute [local irreducible] Go.Calls Go.Exit.then Go.Exit.inBlock Go.bodyPost Go.Code.wp Go.wpList
theorem xor_b8 (x y : Int) : 0 ≤ bits .xor .u8 x y ∧ bits .xor .u8 x y < 256 := by
  have h : ∀ z : Int, 0 ≤ IntKind.u8.wrap z ∧ IntKind.u8.wrap z < 256 := fun z => by
    rw [IntKind.wrap_u8]
    omega
  unfold bits
  exact h _
theorem zip_bytes : ∀ (a b : List Int), IsBytes (List.zipWith (bits .xor .u8) a b) := fun a b x hx => by
  obtain ⟨i, hi, rfl⟩ := List.getElem_of_mem hx
  rw [List.getElem_zipWith]
  exact xor_b8 _ _
/-- Two checks as one. -/
def xorI (a b : Id) : Id := ⟨List.zipWith (bits .xor .u8) a.l b.l, by simp [a.len, b.len], zip_bytes _ _⟩
/-- An id's check. -/
def ofId (a : Id) : Id := ⟨hashL 7 a.l 16, (hashL_ok 7 a.l 16).1, (hashL_ok 7 a.l 16).2⟩
attribute [local irreducible] hashL ofId
def zId : Id := ⟨List.replicate 16 0, rfl, fun x hx => by rw [List.eq_of_mem_replicate hx]; decide⟩
end Go.Proofs.YtocaabnbmcpjmaaGreatDoor
/- Numbers of the fields: their cells; sums; what is below what. -/
namespace Go.Proofs.YtocaabnbmcpjmaaGreatDoor
open Go.RowKit
attribute [local irreducible] Go.Calls Go.Exit.then Go.Exit.inBlock Go.bodyPost Go.Code.wp Go.wpList
/-- An element: a number below 2^128, its low 64 bits, its high ones. -/
def eC (v : Int) : List Value := [.int .u64 (v % 18446744073709551616), .int .u64 (v / 18446744073709551616)]
def El (v : Int) : Prop := 0 ≤ v ∧ v < 340282366920938463463374607431768211456
theorem El.lo {v : Int} : 0 ≤ v % 18446744073709551616 ∧ v % 18446744073709551616 < 18446744073709551616 := by omega
theorem El.hi {v : Int} (h : El v) : 0 ≤ v / 18446744073709551616 ∧ v / 18446744073709551616 < 18446744073709551616 := by unfold El at h; omega
theorem El.of {a b : Int} (ha : 0 ≤ a ∧ a < 18446744073709551616) (hb : 0 ≤ b ∧ b < 18446744073709551616) : El (a + 18446744073709551616 * b) := by unfold El; omega
/-! The small field. -/
end Go.Proofs.YtocaabnbmcpjmaaGreatDoor
/- The wide field: what is below what, sums. -/
namespace Go.Proofs.YtocaabnbmcpjmaaGreatDoor
open Go.RowKit
attribute [local irreducible] Go.Calls Go.Exit.then Go.Exit.inBlock Go.bodyPost Go.Code.wp Go.wpList
def wP : Int := 340282366920938462946865773367900766209
end Go.Proofs.YtocaabnbmcpjmaaGreatDoor
/- Sums in either field; numbers as elements. -/
namespace Go.Proofs.YtocaabnbmcpjmaaGreatDoor
open Go.RowKit
attribute [local irreducible] Go.Calls Go.Exit.then Go.Exit.inBlock Go.bodyPost Go.Code.wp Go.wpList
/-- A sum, in either field. -/
def fAdd (f x y : Int) : Int := if f = 1 then (x % 18446744073709551616 + y % 18446744073709551616) % 18446744069414584321 else if f = 2 then (x + y) % wP else 0
end Go.Proofs.YtocaabnbmcpjmaaGreatDoor
/- Method values: functions with what is bound to them; rows of elements that are made. No program is in sight. -/
namespace Go.Proofs.YtocaabnbmcpjmaaGreatDoor
open Go.RowKit
section
variable {P : Program} {ops : Array Oper} {Q : Exit → Act → World → Prop} {n : Nat} {l : Env} {L L1 : List Fa} {rest : List Oper} {d : Tmp} {ty : TypeId} {pos : String} {after : Array Edge} {x : Operand} {f : FuncId} {fst cap vs : List Value} {zs : List Operand} {ats : Array TypeId} {α : Type} {φ : α → Prop} {vv : α → Value} {H : α → List Fa} {C : World → Prop} {g : Option (Nat × Bool)} {dst : Option Tmp}
end
end Go.Proofs.YtocaabnbmcpjmaaGreatDoor
/- Vectors of elements, place by place. -/
namespace Go.Proofs.YtocaabnbmcpjmaaGreatDoor
open Go.RowKit
attribute [local irreducible] Go.Calls Go.Exit.then Go.Exit.inBlock Go.bodyPost Go.Code.wp Go.wpList
/-- An owned row of elements. -/
abbrev eo (A : Option Addr) (n c : Nat) (xs : List Int) : Fa := own 195 2 A n c (rows eC xs)
def zipE (op : Int → Int → Int) (xs ys : List Int) : List Int := List.zipWith op xs ys
def addV (f : Int) (xs ys : List Int) : List Int := zipE (fAdd f) xs ys
end Go.Proofs.YtocaabnbmcpjmaaGreatDoor
/- The shelf's contract of bits.Len, laid at this program (printed by the kit's lay-plain; its numbers are this seat's). -/
namespace Go.Proofs.YtocaabnbmcpjmaaGreatDoor
open Go.Shelf Go.RowKit
def layLen_ren : Go.Shelf.Ren := ⟨fun | 125 => 129 | 128 => 154 | 129 => 155 | n => n, fun | 46 => 233 | 3 => 3 | 51 => 202 | 53 => 28 | 4 => 4 | 5 => 5 | 9 => 9 | n => n, fun | n => n⟩
theorem layLen : Go.Proofs.Lays.n125 Tryz.prog layLen_ren := {
  mixed := by kernel_rfl
  f125 := Tryz.func129.trans (congrArg some (by kernel_rfl))
  f128 := Tryz.func154.trans (congrArg some (by kernel_rfl))
  f129 := Tryz.func155.trans (congrArg some (by kernel_rfl))
  t3 := Tryz.underlying3
  a3 := Tryz.isAgg3
  z3 := Tryz.sizeOf3
  v3 := Tryz.zeroValue3
  t4 := Tryz.underlying4
  a4 := Tryz.isAgg4
  z4 := Tryz.sizeOf4
  v4 := Tryz.zeroValue4
  t5 := Tryz.underlying5
  a5 := Tryz.isAgg5
  z5 := Tryz.sizeOf5
  v5 := Tryz.zeroValue5
  t9 := Tryz.underlying9
  a9 := Tryz.isAgg9
  z9 := Tryz.sizeOf9
  v9 := Tryz.zeroValue9
  t46 := Tryz.underlying233
  a46 := Tryz.isAgg233
  z46 := Tryz.sizeOf233
  v46 := Tryz.zeroValue233
  t51 := Tryz.underlying202
  a51 := Tryz.isAgg202
  z51 := Tryz.sizeOf202
  v51 := Tryz.zeroValue202
  t53 := Tryz.underlying28
  a53 := Tryz.isAgg28
  z53 := Tryz.sizeOf28
  v53 := Tryz.zeroValue28 }

theorem fn_eq {P : Program} {f : FuncId} {args : Array Value} {v : Value} {K : List Fa} (h : ∀ W, Calls P f args W fun e w' => e = .returned v ∧ w' = W) : Fn P f args K (Ret (fun _ : Unit => True) (fun _ => v) (fun _ => K)) := by
  unfold Fn
  intro w hw
  refine (h w).mono ?_
  rintro e w' ⟨rfl, rfl⟩
  exact ⟨(), trivial, rfl, hw⟩
theorem len_c (x : Int) (h0 : 0 ≤ x) (h1 : x ≤ 18446744073709551615) (w : World) : Calls Tryz.prog 129 #[.int .u64 x] w fun e w' => e = .returned (.int .i64 (Lib.bitLen x.toNat)) ∧ w' = w := Any.bits_Len layLen x w h0 h1
end Go.Proofs.YtocaabnbmcpjmaaGreatDoor
