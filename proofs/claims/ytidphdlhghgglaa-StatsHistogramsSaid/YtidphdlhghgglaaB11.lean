/- Several texts of one claim, one behind the other (Su, Sv, Ht). -/
import Derived.Test.YtidphdlhghgglaaB07
import Derived.Test.YtidphdlhghgglaaB01
import Derived.ChangeArms
import Derived.Test.YtidphdlhghgglaaB10
set_option linter.unusedVariables false
/- StatsSummaries: its walk. -/
namespace Go.Proofs.Ytidphdlhghgglaa
open Go.RowKit
attribute [local irreducible] Go.Calls Go.Exit.then Go.Exit.inBlock Go.bodyPost Go.Code.wp Go.wpList
theorem pu_fneq {P : Program} {C : World → Prop} {n : Nat} {l : Env} {x y : Operand} {t t' ty : TypeId} {a b : Nat} (hx : ev l x = some (.float .f64 a)) (hy : ev l y = some (.float .f64 b)) : Pu P C n l (.binOp .neq t x y t') ty (.bool (!fEq a b)) := by
  unfold Pu
  intro q _ _ _ _ W hs _
  simp only [execOp, hs.ev hx, hs.ev hy]
  simp [go_sem, fEq]
  rfl
/-- One more into its place. -/
def insAt (e : List Fp) (k : Nat) (x : Fp) : List Fp := e.take k ++ [x] ++ e.drop k
theorem ins_len {e : List Fp} {k : Nat} {x : Fp} (hk : k ≤ e.length) : (insAt e k x).length = e.length + 1 := by
  unfold insAt
  simp
  omega
theorem ins_perm {e : List Fp} {k : Nat} {x : Fp} : (insAt e k x).Perm (e ++ [x]) := by
  unfold insAt
  rw [List.append_assoc]
  refine (List.perm_append_comm.append_left _).trans ?_
  rw [← List.append_assoc, List.take_append_drop]
theorem ins_sorted {e : List Fp} {k : Nat} {x : Fp} (hk : k ≤ e.length) (hs : e.Pairwise (fun a b => key a.x ≤ key b.x)) (h1 : ∀ i, (hi : i < k) → key (e[i]'(by omega)).x ≤ key x.x) (h2 : ∀ h : k < e.length, key x.x < key e[k].x) : (insAt e k x).Pairwise (fun a b => key a.x ≤ key b.x) := by
  have ht : ∀ a ∈ e.take k, key a.x ≤ key x.x := fun a ha => by
    obtain ⟨i, hi, rfl⟩ := List.mem_iff_getElem.1 ha
    rw [List.length_take] at hi
    rw [List.getElem_take]
    exact h1 i (by omega)
  have hd : ∀ b ∈ e.drop k, key x.x ≤ key b.x := fun b hb => by
    obtain ⟨i, hi, rfl⟩ := List.mem_iff_getElem.1 hb
    rw [List.length_drop] at hi
    rw [List.getElem_drop]
    have h3 := h2 (by omega)
    rcases Nat.eq_zero_or_pos i with h0 | h0
    · subst h0
      simp only [Nat.add_zero]
      omega
    · have := List.pairwise_iff_getElem.1 hs k (k + i) (by omega) (by omega) (by omega)
      omega
  unfold insAt
  rw [List.append_assoc, List.pairwise_append]
  refine ⟨hs.sublist (List.take_sublist _ _), ?_, fun a ha b hb => ?_⟩
  · rw [List.singleton_append, List.pairwise_cons]
    exact ⟨hd, hs.sublist (List.drop_sublist _ _)⟩
  · rw [List.singleton_append, List.mem_cons] at hb
    have h3 := ht a ha
    rcases hb with rfl | hb
    · exact h3
    · have := hd b hb
      omega
theorem sorted_keys {d e : List Fp} (hp : d.Perm e) (hd : d.Pairwise (fun a b => key a.x ≤ key b.x)) (he : e.Pairwise (fun a b => key a.x ≤ key b.x)) : d.map (fun a => key a.x) = e.map (fun a => key a.x) :=
  List.Perm.eq_of_pairwise (le := fun x y : Int => x ≤ y) (fun a b _ _ h1 h2 => Int.le_antisymm h1 h2) (List.pairwise_map.2 hd) (List.pairwise_map.2 he) (hp.map _)
theorem fp_nth {e : List Fp} {i : Nat} (h : i < e.length) : nth (e.map Fp.v) (i * 1) = some (.float .f64 e[i].x) := by
  rw [nth_eq, Nat.mul_one, List.getElem?_map, List.getElem?_eq_getElem h]
  rfl
theorem fp_take {e : List Fp} {k : Nat} : (e.map Fp.v).take (k * 1) = (e.take k).map Fp.v := by rw [Nat.mul_one, List.map_take]
theorem fp_drop {e : List Fp} {k : Nat} : (e.map Fp.v).drop (k * 1) = (e.drop k).map Fp.v := by rw [Nat.mul_one, List.map_drop]
theorem fp_one {e : List Fp} : ∀ u ∈ e.map Fp.v, u.oneCell' = true := by
  intro u hu
  obtain ⟨f, _, rfl⟩ := List.mem_map.1 hu
  rfl
theorem vw_fp_take {L : List Fa} {A : Option Addr} {c k : Nat} {e : List Fp} {t : TypeId} (h : At (own t 1 A e.length c (e.map Fp.v)) L) (hk : k ≤ e.length) : Vw L (fun w => Reads w 1 A k ((e.take k).map Fp.v)) := fun w hw => by
  have h1 := (Vw.of_own h w hw).take (k := k) hk
  rwa [fp_take] at h1
theorem vw_fp_drop {L : List Fa} {A : Option Addr} {c k : Nat} {e : List Fp} {t : TypeId} (h : At (own t 1 A e.length c (e.map Fp.v)) L) (hk : k ≤ e.length) (hc : e.length ≤ c) : Vw L (fun w => Reads w 1 (cutA A c k 1) (e.length - k) ((e.drop k).map Fp.v)) := fun w hw => by
  have h1 := (Vw.of_own h w hw).cut (k := k) hk hc
  rwa [fp_drop] at h1
structure Si where
  j : Nat
  e : List Fp
  A : Option Addr
  c : Nat
theorem nth_Su {φ : Prop} (h : φ := by (first | rfl | assumption)) : φ := h
theorem mid_Su {φ : Prop} (h : φ := by (first | exact Mid.all | exact Mid.all | exact Mid.head)) : φ := h
theorem sz_Su {φ : Prop} (h : φ := by (first | rfl | (rfl; first | done | fail))) : φ := h
theorem one_Su {φ : Prop} (h : φ := by (first | assumption | exact first | exact summ_one | exact one_bytes _ | (simp only [List.mem_cons, List.not_mem_nil, or_false, forall_eq_or_imp, forall_eq]; decide) | exact one_bytes _)) : φ := h
theorem set_Su {φ : Prop} (h : φ := by (first | (fail) | ((repeat (first | exact SetAt.here | apply SetAt.there)); first | done | fail))) : φ := h
theorem cl_Su {φ : Prop} (h : φ := by first | rfl | exact .t | exact .f | exact .t (by omega) | exact .f (by omega) | exact .u | exact .i (by (first | exact .t (by omega) | exact .f (by omega) | exact .u | exact .i (by omega) | exact .v (by omega) | exact .b (by omega) | exact .w | rfl | omega)) | exact .v (by omega) | exact .b (by omega) | exact .q (by omega) | exact .w | exact .b (by exact at_) rfl (by exact nth_Su) | exact .w (by exact at_) rfl rfl (by exact sz_Su) | exact .s (by exact at_) (by exact mid_Su) rfl rfl (by exact sz_Su) | exact .z rfl rfl ⟨by kernel_rfl⟩ | exact .b rfl rfl ⟨by kernel_rfl⟩ | exact .a rfl rfl ⟨by kernel_rfl⟩ | exact .o rfl | exact .s | exact .n | exact .p rfl | exact .q rfl | exact .c rfl | exact .d rfl | exact .n rfl rfl (by omega) | exact .a rfl rfl (by omega) | exact .p rfl rfl (by omega) (by omega) | exact .y rfl rfl (by omega) (by omega) | exact .o (by exact at_) (by omega) rfl (by exact nth_Su) | exact .m (by exact at_) (by omega) (by exact mid_Su) rfl rfl (by exact sz_Su) | exact .mlen (by exact at_) rfl | exact .t (by exact at_) rfl rfl (by first | exact True.intro | rfl) (by assumption) | exact .f (by exact at_) rfl rfl (by first | exact True.intro | rfl) (by assumption) rfl | exact .t1 (by exact at_) rfl rfl (by first | exact True.intro | rfl) (by assumption) | exact .f1 (by exact at_) rfl rfl (by first | exact True.intro | rfl) (by assumption) rfl | exact .r rfl rfl (by omega) (by omega) (by exact nth_Su) rfl | exact .s rfl (by omega) (by assumption) | exact at_ | assumption | exact .r rfl rfl | exact .h rfl rfl rfl (by omega) | exact .l rfl rfl rfl (by omega) (by omega) | exact .g rfl rfl rfl rfl (by omega) (by omega) | exact .h rfl rfl (toN_ (by omega)) (by omega) | exact .l rfl rfl (toN_ (by omega)) (by omega) (by omega) | exact .g rfl rfl (toN_ (by omega)) (toN_ (by omega)) (by omega) (by omega) | exact .o (by decide) | exact .f (by decide) | exact .n (by omega) (by first | decide | (show _ ≤ ((64 : Nat) : Int); omega)) | (constructor; (repeat (first | exact .t (by omega) | exact .f (by omega) | exact .u | exact .i (by omega) | exact .v (by omega) | exact .b (by omega) | exact .w | rfl | omega)); first | done | fail) | omega | (show _ ≤ ((64 : Nat) : Int); omega)) : φ := h
theorem pv_Su {φ : Prop} (h : φ := by constructor; (repeat exact cl_Su); first | done | fail) : φ := h
theorem su_Su {φ ψ : Prop} (k : ψ) (h : Hide ψ → φ := by (intro k; (first | refine sl_pu (PuI.sep (by exact pv_Su)) rfl ?_ | refine sl_yes rfl rfl ?_ | refine sl_no rfl rfl rfl ?_ | refine sl_off rfl rfl rfl ?_ | (fail)); exact k.out)) : φ := h ⟨k⟩
theorem rq_Su {φ ψ : Prop} (k : ψ) (h : Hide ψ → φ := by (intro k; (first | refine wq_pu (PuI.sep (by exact pv_Su)) rfl ?_ | refine wq_yes rfl rfl ?_ | refine wq_no rfl rfl rfl ?_ | refine wq_off rfl rfl rfl ?_ | (fail)); exact k.out)) : φ := h ⟨k⟩
theorem sto_Su {φ ψ : Prop} (k : ψ) (h : Hide ψ → φ := by (intro k; (first | refine sl_store rfl (by exact pick_) rfl rfl (by kernel_rfl) (by exact set_Su) ?_ | refine sl_store_whole rfl (by exact pick_) rfl (by exact sz_Su) (by exact sz_Su) (by exact one_Su) ?_); exact k.out)) : φ := h ⟨k⟩
theorem go_Su {φ ψ : Prop} (k : ψ) (h : Hide ψ → φ := by (intro k; (repeat (first | refine su_Su ?_ | refine so_ ?_ | refine sto_Su ?_)); exact k.out)) : φ := h ⟨k⟩
set_option maxRecDepth 100000 in
set_option maxHeartbeats 4000000 in
theorem lawSumm_ok {K : List Fa} {A : Option Addr} {c : Nat} {xs : List Nat} (hr : Vw K (fun w => Reads w 1 A xs.length (xs.map fl))) (hb : ∀ x ∈ xs, x < 18446744073709551616) (hn : xs.length ≤ 9223372036854775807) :
    Fn Try.prog 3 #[.slice A xs.length c] K (Ret (fun _ : Unit => True) (fun _ => .bool true) (fun _ => K)) := by
  refine fn_enter Try.func3 rfl _ Try.ntmps3 (by simp) [(0, .slice A xs.length c)] (args_of (by simp)) ?_
  refine go_Su ?_
  refine sl_call rfl rfl (by kernel_rfl) rfl Sub.refl awake30 ?_
  rintro _ -
  by_cases h200 : 200 < xs.length
  · refine go_Su ?_
    exact se_ret1 () trivial rfl rfl (by exact sub_)
  refine go_Su ?_
  refine sl_call rfl rfl (by kernel_rfl) rfl Sub.refl (summ_ok hr hb (by omega)) ?_
  rintro d ⟨hdp, hds⟩
  refine go_Su ?_
  refine sl_alloc rfl rfl rfl ?_; intro g3
  refine sl_store_whole (cl := summC d) rfl (by exact pick_) rfl rfl (by rfl) summ_one ?_
  refine go_Su ?_
  refine sc_bjoin (fun p : Si => [(3, .pointer (some ⟨g3, 0, none⟩)), (4, .slice p.A p.e.length p.c)]) (fun p => own 24 1 p.A p.e.length p.c (p.e.map Fp.v) :: blk g3 26 (summC d) :: K) (fun p => p.e.Perm (numsOf xs) ∧ p.e.Pairwise (fun a b => key a.x ≤ key b.x)) ?_ ?_
  · refine sc_for (fun p : Si => [(3, .pointer (some ⟨g3, 0, none⟩)), (4, .slice p.A p.e.length p.c), (16, .slice A xs.length c), (17, .int .i64 xs.length), (18, .int .i64 p.j)]) (fun p => own 24 1 p.A p.e.length p.c (p.e.map Fp.v) :: blk g3 26 (summC d) :: K) (fun p => p.j ≤ xs.length ∧ p.e.Perm (numsOf (xs.take p.j)) ∧ p.e.Pairwise (fun a b => key a.x ≤ key b.x)) (fun p => xs.length - p.j) ⟨0, [], none, 0⟩ (by exact has_) (Sub.own_nil (by exact sub_)) ⟨Nat.zero_le _, .refl _, .nil⟩ ?_
    rintro ⟨j, e, A1, c1⟩ ⟨hj, hep, hes⟩
    dsimp only at hj hep hes ⊢
    by_cases hlt : j < xs.length
    · have hlen := hep.length_eq
      have hlen2 := nums_len (xs.take j)
      rw [List.length_take] at hlen2
      have htk : xs.take (j + 1) = xs.take j ++ [xs[j]] := List.take_succ_eq_append_getElem hlt
      have hxb := hb _ (List.getElem_mem hlt)
      have hnx : nth (xs.map fl) (j * 1) = some (.float .f64 xs[j]) := by
        rw [nth_eq, Nat.mul_one, List.getElem?_map, List.getElem?_eq_getElem hlt]
        rfl
      refine sc_know (vw_form (L := own 24 1 A1 e.length c1 (e.map Fp.v) :: blk g3 26 (summC d) :: K) (hr.mono (by exact sub_)) (by omega)) ?_
      rintro ⟨ad, rfl⟩
      refine go_Su ?_
      refine sl_pu (pu_ldr (hr.mono (by exact sub_)) (by omega) rfl rfl hnx) rfl ?_
      refine go_Su ?_
      refine sl_pu (pu_fneq rfl rfl) rfl ?_
      rw [show (!fEq xs[j] xs[j]) = fnan xs[j] from rfl]
      cases hx : fnan xs[j] with
      | true =>
        have hsame : numsOf (xs.take (j + 1)) = numsOf (xs.take j) := by
          rw [htk, nums_app, nums_cons, dif_neg (by rw [hx]; simp)]
          exact List.append_nil _
        refine go_Su ?_
        refine se_round ⟨j + 1, e, A1, c1⟩ (by exact has_) (by exact sub_) ⟨hlt, by rw [hsame]; exact hep, hes⟩ (by show xs.length - (j + 1) < xs.length - j; omega)
      | false =>
        have hnew : numsOf (xs.take (j + 1)) = numsOf (xs.take j) ++ [⟨xs[j], hx, hxb⟩] := by
          rw [htk, nums_app, nums_cons, dif_pos ⟨hx, hxb⟩]
          rfl
        refine go_Su ?_
        refine sc_bjoin (fun k : Nat => [(3, .pointer (some ⟨g3, 0, none⟩)), (4, .slice A1 e.length c1), (6, .float .f64 xs[j]), (7, .int .i64 k), (16, .slice (some ad) xs.length c), (17, .int .i64 xs.length), (18, .int .i64 j)]) (fun _ => own 24 1 A1 e.length c1 (e.map Fp.v) :: blk g3 26 (summC d) :: K) (fun k => k ≤ e.length ∧ (∀ i, ∀ hi : i < e.length, i < k → key e[i].x ≤ key xs[j]) ∧ ∀ h : k < e.length, key xs[j] < key e[k].x) ?_ ?_
        · refine sc_for (fun k : Nat => [(3, .pointer (some ⟨g3, 0, none⟩)), (4, .slice A1 e.length c1), (6, .float .f64 xs[j]), (7, .int .i64 k), (16, .slice (some ad) xs.length c), (17, .int .i64 xs.length), (18, .int .i64 j)]) (fun _ => own 24 1 A1 e.length c1 (e.map Fp.v) :: blk g3 26 (summC d) :: K) (fun k => k ≤ e.length ∧ ∀ i, ∀ hi : i < e.length, i < k → key e[i].x ≤ key xs[j]) (fun k => e.length - k) 0 (by exact has_) (by exact sub_) ⟨Nat.zero_le _, fun i _ h => absurd h (Nat.not_lt_zero _)⟩ ?_
          rintro k ⟨hk, hle⟩
          by_cases hkl : k < e.length
          · have hnk := fp_nth hkl
            have hless := less_of hx e[k].nn
            refine sc_form (e := 24) (size := 1) (A := A1) (m := e.length) (by exact at_) (by omega) ?_
            rintro ge rfl
            refine go_Su ?_
            refine sl_call rfl rfl (by kernel_rfl) rfl Sub.refl (fn_same (less_c _ _ hxb e[k].lt)) ?_
            rintro _ -
            rw [hless]
            by_cases hc : key xs[j] < key e[k].x
            · rw [decide_eq_true hc]
              refine go_Su ?_
              exact se_mid k (by exact has_) (by exact sub_) ⟨hk, hle, fun _ => hc⟩
            · rw [decide_eq_false hc]
              refine go_Su ?_
              refine se_round (k + 1) (by exact has_) (by exact sub_) ⟨hkl, fun i hi hik => ?_⟩ (by omega)
              rcases Nat.lt_or_ge i k with h | h
              · exact hle i hi h
              · obtain rfl : i = k := by omega
                omega
          · obtain rfl : k = e.length := by omega
            refine go_Su ?_
            exact se_mid e.length (by exact has_) (by exact sub_) ⟨Nat.le_refl _, hle, fun h => absurd h (Nat.lt_irrefl _)⟩
        · rintro k ⟨hk, hle, hgt⟩
          refine sc_know (fun w hw => (own_len (e := 24) (size := 1) (A := A1) hw (by exact at_)).2) ?_
          rintro ⟨hec, hcm⟩
          have hil := ins_len (x := ⟨xs[j], hx, hxb⟩) hk
          have hmap : ((e.take k).map Fp.v ++ [Value.float .f64 xs[j]]) ++ (e.drop k).map Fp.v = (insAt e k ⟨xs[j], hx, hxb⟩).map Fp.v := by
            unfold insAt
            rw [List.map_append, List.map_append]
            rfl
          have hcnt : k + 1 + (e.length - k) = (insAt e k ⟨xs[j], hx, hxb⟩).length := by omega
          refine sd_drawn (fun W => AllP W []) (fun _ => true) (by kernel_rfl) 13 rfl ?_
          refine sd_yes2 1 rfl (by exact gd_) (by kernel_rfl) (by kernel_rfl) (by exact nop_) (PuI.all (by exact pv_Su)) rfl (fun w hw => all_ hw) ?_
          refine sd_yes2 2 rfl (by exact gd_) (by kernel_rfl) (by kernel_rfl) (by exact nop_) (PuI.all (by exact pv_Su)) rfl (fun w hw => all_ hw) ?_
          refine sd_yes2 3 rfl (by exact gd_) (by kernel_rfl) (by kernel_rfl) (by exact nop_) (PuI.all (by exact pv_Su)) rfl (fun w hw => all_ hw) ?_
          refine sd_yes2 5 rfl (by exact gd_) (by kernel_rfl) (by kernel_rfl) (by exact nop_) (PuI.all (by exact pv_Su)) rfl (fun w hw => all_ hw) ?_
          refine sd_yes2 8 rfl (by exact gd_) (by kernel_rfl) (by kernel_rfl) (by exact nop_) (PuI.all (by exact pv_Su)) rfl (fun w hw => all_ hw) ?_
          refine sd_yes2 9 rfl (by exact gd_) (by kernel_rfl) (by kernel_rfl) (by exact nop_) (PuI.all (by exact pv_Su)) rfl (fun w hw => all_ hw) ?_
          refine sd_yes2 10 rfl (by exact gd_) (by kernel_rfl) (by kernel_rfl) (by exact nop_) (PuI.all (by exact pv_Su)) rfl (fun w hw => all_ hw) ?_
          refine sd_two 0 6 (by kernel_rfl) (sa_sl 0 rfl ?_) (sa_sl 6 rfl ?_)
          · refine sl_build0 (e := 24) (size := 1) rfl (fun W => by kernel_rfl) rfl ?_
            intro g0
            refine sl_nil ?_
            refine se_sd (fun _ w hw => all_ hw) ?_
            refine sd_two 4 6 (by kernel_rfl) (sa_sl 4 rfl ?_) (sa_sl 6 rfl ?_)
            · refine sl_app (A := some ⟨g0, 0, none⟩) (k := 0) (c := 0) rfl (by exact pick_) rfl (vw_fp_take (A := A1) (c := c1) (e := e) (t := 24) (by exact at_) hk) fp_one rfl infoF64 (by decide) (by decide) rfl (by unfold maxLen; omega) (by omega) ?_
              intro A4 c4
              rw [Nat.zero_add, List.nil_append]
              refine sl_nil ?_
              refine se_sd (fun _ w hw => all_ hw) ?_
              refine sd_one 6 (by kernel_rfl) (sa_sl 6 rfl ?_)
              refine sl_build (size := 1) (e := 24) (cells := [Value.float .f64 xs[j]]) rfl (fun W => by kernel_rfl) rfl (by decide) rfl ?_
              intro g6
              refine sl_nil ?_
              refine se_sd (fun _ w hw => all_ hw) ?_
              refine sd_one 7 (by kernel_rfl) (sa_sl 7 rfl ?_)
              refine sl_app (A := A4) (k := k) (c := c4) rfl (by exact pick_) rfl (Vw.of_own (e := 24) (A := some ⟨g6, 0, none⟩) (c := 1) (by exact at_)) fl_one rfl infoF64 (by decide) (by decide) rfl (by unfold maxLen; omega) (by omega) ?_
              intro A7 c7
              refine sl_nil ?_
              refine se_sd (fun _ w hw => all_ hw) ?_
              refine sd_one 11 (by kernel_rfl) (sa_sl 11 rfl ?_)
              refine sl_app (A := A7) (k := k + 1) (c := c7) rfl (by exact pick_) rfl (vw_fp_drop (A := A1) (c := c1) (e := e) (t := 24) (by exact at_) hk hec) fp_one rfl infoF64 (by decide) (by decide) rfl (by unfold maxLen; omega) (by omega) ?_
              intro A11 c11
              rw [hmap, hcnt]
              refine sl_nil ?_
              refine se_sd (fun _ w hw => all_ hw) ?_
              refine sd_yes2 12 rfl (by exact gd_) (by kernel_rfl) (by kernel_rfl) (by exact nop_) (PuI.all (by exact pv_Su)) rfl (fun w hw => all_ hw) ?_
              refine sd_done (by kernel_rfl) ?_
              refine go_Su ?_
              exact se_round ⟨j + 1, insAt e k ⟨xs[j], hx, hxb⟩, A11, c11⟩ (by exact has_) (by exact sub_) ⟨hlt, by rw [hnew]; exact ins_perm.trans (hep.append_right _), ins_sorted hk hes (fun i hi => hle i (by omega) hi) hgt⟩ (by show xs.length - (j + 1) < xs.length - j; omega)
            · refine sl_build (size := 1) (e := 24) (cells := [Value.float .f64 xs[j]]) rfl (fun W => by kernel_rfl) rfl (by decide) rfl ?_
              intro g6
              refine sl_nil ?_
              refine se_sd (fun _ w hw => all_ hw) ?_
              refine sd_one 4 (by kernel_rfl) (sa_sl 4 rfl ?_)
              refine sl_app (A := some ⟨g0, 0, none⟩) (k := 0) (c := 0) rfl (by exact pick_) rfl (vw_fp_take (A := A1) (c := c1) (e := e) (t := 24) (by exact at_) hk) fp_one rfl infoF64 (by decide) (by decide) rfl (by unfold maxLen; omega) (by omega) ?_
              intro A4 c4
              rw [Nat.zero_add, List.nil_append]
              refine sl_nil ?_
              refine se_sd (fun _ w hw => all_ hw) ?_
              refine sd_one 7 (by kernel_rfl) (sa_sl 7 rfl ?_)
              refine sl_app (A := A4) (k := k) (c := c4) rfl (by exact pick_) rfl (Vw.of_own (e := 24) (A := some ⟨g6, 0, none⟩) (c := 1) (by exact at_)) fl_one rfl infoF64 (by decide) (by decide) rfl (by unfold maxLen; omega) (by omega) ?_
              intro A7 c7
              refine sl_nil ?_
              refine se_sd (fun _ w hw => all_ hw) ?_
              refine sd_one 11 (by kernel_rfl) (sa_sl 11 rfl ?_)
              refine sl_app (A := A7) (k := k + 1) (c := c7) rfl (by exact pick_) rfl (vw_fp_drop (A := A1) (c := c1) (e := e) (t := 24) (by exact at_) hk hec) fp_one rfl infoF64 (by decide) (by decide) rfl (by unfold maxLen; omega) (by omega) ?_
              intro A11 c11
              rw [hmap, hcnt]
              refine sl_nil ?_
              refine se_sd (fun _ w hw => all_ hw) ?_
              refine sd_yes2 12 rfl (by exact gd_) (by kernel_rfl) (by kernel_rfl) (by exact nop_) (PuI.all (by exact pv_Su)) rfl (fun w hw => all_ hw) ?_
              refine sd_done (by kernel_rfl) ?_
              refine go_Su ?_
              exact se_round ⟨j + 1, insAt e k ⟨xs[j], hx, hxb⟩, A11, c11⟩ (by exact has_) (by exact sub_) ⟨hlt, by rw [hnew]; exact ins_perm.trans (hep.append_right _), ins_sorted hk hes (fun i hi => hle i (by omega) hi) hgt⟩ (by show xs.length - (j + 1) < xs.length - j; omega)
          · refine sl_build (size := 1) (e := 24) (cells := [Value.float .f64 xs[j]]) rfl (fun W => by kernel_rfl) rfl (by decide) rfl ?_
            intro g6
            refine sl_nil ?_
            refine se_sd (fun _ w hw => all_ hw) ?_
            refine sd_one 0 (by kernel_rfl) (sa_sl 0 rfl ?_)
            refine sl_build0 (e := 24) (size := 1) rfl (fun W => by kernel_rfl) rfl ?_
            intro g0
            refine sl_nil ?_
            refine se_sd (fun _ w hw => all_ hw) ?_
            refine sd_one 4 (by kernel_rfl) (sa_sl 4 rfl ?_)
            refine sl_app (A := some ⟨g0, 0, none⟩) (k := 0) (c := 0) rfl (by exact pick_) rfl (vw_fp_take (A := A1) (c := c1) (e := e) (t := 24) (by exact at_) hk) fp_one rfl infoF64 (by decide) (by decide) rfl (by unfold maxLen; omega) (by omega) ?_
            intro A4 c4
            rw [Nat.zero_add, List.nil_append]
            refine sl_nil ?_
            refine se_sd (fun _ w hw => all_ hw) ?_
            refine sd_one 7 (by kernel_rfl) (sa_sl 7 rfl ?_)
            refine sl_app (A := A4) (k := k) (c := c4) rfl (by exact pick_) rfl (Vw.of_own (e := 24) (A := some ⟨g6, 0, none⟩) (c := 1) (by exact at_)) fl_one rfl infoF64 (by decide) (by decide) rfl (by unfold maxLen; omega) (by omega) ?_
            intro A7 c7
            refine sl_nil ?_
            refine se_sd (fun _ w hw => all_ hw) ?_
            refine sd_one 11 (by kernel_rfl) (sa_sl 11 rfl ?_)
            refine sl_app (A := A7) (k := k + 1) (c := c7) rfl (by exact pick_) rfl (vw_fp_drop (A := A1) (c := c1) (e := e) (t := 24) (by exact at_) hk hec) fp_one rfl infoF64 (by decide) (by decide) rfl (by unfold maxLen; omega) (by omega) ?_
            intro A11 c11
            rw [hmap, hcnt]
            refine sl_nil ?_
            refine se_sd (fun _ w hw => all_ hw) ?_
            refine sd_yes2 12 rfl (by exact gd_) (by kernel_rfl) (by kernel_rfl) (by exact nop_) (PuI.all (by exact pv_Su)) rfl (fun w hw => all_ hw) ?_
            refine sd_done (by kernel_rfl) ?_
            refine go_Su ?_
            exact se_round ⟨j + 1, insAt e k ⟨xs[j], hx, hxb⟩, A11, c11⟩ (by exact has_) (by exact sub_) ⟨hlt, by rw [hnew]; exact ins_perm.trans (hep.append_right _), ins_sorted hk hes (fun i hi => hle i (by omega) hi) hgt⟩ (by show xs.length - (j + 1) < xs.length - j; omega)
    · obtain rfl : j = xs.length := by omega
      rw [List.take_length] at hep
      refine go_Su ?_
      exact se_mid ⟨xs.length, e, A1, c1⟩ (by exact has_) (by exact sub_) ⟨hep, hes⟩
  · rintro ⟨j, e, A1, c1⟩ ⟨hep, hes⟩
    dsimp only at hep hes ⊢
    have hde : d.Perm e := hdp.trans hep.symm
    have hkeys := sorted_keys hde hds hes
    have hl := hde.length_eq
    have hlx := nums_len xs
    have hle := hep.length_eq
    have hkk : ∀ i, ∀ h1 : i < d.length, ∀ h2 : i < e.length, key d[i].x = key e[i].x := fun i h1 h2 => by
      have := congrArg (fun l : List Int => l[i]?) hkeys
      simpa [h1, h2] using this
    by_cases h0 : e.length = 0
    · obtain rfl : e = [] := List.eq_nil_of_length_eq_zero h0
      obtain rfl : d = [] := List.eq_nil_of_length_eq_zero (by omega)
      rw [show summC [] = [.int .i64 0, .float .f64 9221120237041090561, .float .f64 9221120237041090561, .float .f64 9221120237041090561] from rfl]
      have hnn : (!fEq 9221120237041090561 9221120237041090561) = true := by
        show fnan 9221120237041090561 = true
        rw [fnan_eq]
        rfl
      refine go_Su ?_
      refine sl_pu (pu_fneq rfl rfl) rfl ?_
      rw [hnn]
      refine go_Su ?_
      refine sl_pu (pu_fneq rfl rfl) rfl ?_
      rw [hnn]
      refine go_Su ?_
      refine sl_pu (pu_fneq rfl rfl) rfl ?_
      rw [hnn]
      refine go_Su ?_
      exact se_ret1 () trivial rfl rfl (by exact sub_)
    · rw [summC_ne (by omega)]
      refine sc_form (e := 24) (size := 1) (A := A1) (m := e.length) (by exact at_) (by omega) ?_
      rintro ge rfl
      have m0 : nth (e.map Fp.v) (0 * 1) = some (.float .f64 e[0].x) := fp_nth (by omega)
      have m1 : nth (e.map Fp.v) (((e.length : Int) - 1).toNat * 1) = some (.float .f64 (e[d.length - 1]'(by omega)).x) := by
        rw [show ((e.length : Int) - 1).toNat = d.length - 1 by omega]
        exact fp_nth (by omega)
      have m2 : nth (e.map Fp.v) ((((e.length : Int) - 1) / 2).toNat * 1) = some (.float .f64 (e[(d.length - 1) / 2]'(by omega)).x) := by
        rw [show (((e.length : Int) - 1) / 2).toNat = (d.length - 1) / 2 by omega]
        exact fp_nth (by omega)
      have j0 := just_key d[0].nn e[0].nn (hkk 0 (by omega) (by omega))
      have j1 := just_key d[d.length - 1].nn (e[d.length - 1]'(by omega)).nn (hkk (d.length - 1) (by omega) (by omega))
      have j2 := just_key d[(d.length - 1) / 2].nn (e[(d.length - 1) / 2]'(by omega)).nn (hkk ((d.length - 1) / 2) (by omega) (by omega))
      refine go_Su ?_
      refine sd_drawn (fun W => AllP W [blk g3 26 [.int .i64 d.length, .float .f64 d[0].x, .float .f64 d[d.length - 1].x, .float .f64 d[(d.length - 1) / 2].x], own 24 1 (some ⟨ge, 0, none⟩) e.length c1 (e.map Fp.v)]) (fun _ => true) (by kernel_rfl) 34 rfl ?_
      refine sd_yes2 0 rfl (by exact gd_) (by kernel_rfl) (by kernel_rfl) (by exact nop_) (PuI.all (by exact pv_Su)) rfl (fun w hw => all_ hw) ?_
      refine sd_yes2 1 rfl (by exact gd_) (by kernel_rfl) (by kernel_rfl) (by exact nop_) (PuI.all (by exact pv_Su)) rfl (fun w hw => all_ hw) ?_
      refine sd_yes2 2 rfl (by exact gd_) (by kernel_rfl) (by kernel_rfl) (by exact nop_) (PuI.all (by exact pv_Su)) rfl (fun w hw => all_ hw) ?_
      refine sd_yes2 3 rfl (by exact gd_) (by kernel_rfl) (by kernel_rfl) (by exact nop_) (PuI.all (by exact pv_Su)) rfl (fun w hw => all_ hw) ?_
      refine sd_yes2 4 rfl (by exact gd_) (by kernel_rfl) (by kernel_rfl) (by exact nop_) (PuI.all (by exact pv_Su)) rfl (fun w hw => all_ hw) ?_
      first | refine sd_yes2 5 rfl (by exact gd_) (by kernel_rfl) (by kernel_rfl) (by exact nop_) (PuI.all (by exact pv_Su)) rfl (fun w hw => all_ hw) ?_ | refine sd_off2 5 rfl (by exact gd_) (by kernel_rfl) (by kernel_rfl) (by exact nop_) rfl (fun w hw => all_ hw) ?_ | refine sd_off3 5 rfl rfl rfl (by kernel_rfl) (by kernel_rfl) (by exact nop_) rfl (fun w hw => all_ hw) ?_
      first | refine sd_yes2 6 rfl (by exact gd_) (by kernel_rfl) (by kernel_rfl) (by exact nop_) (PuI.all (by exact pv_Su)) rfl (fun w hw => all_ hw) ?_ | refine sd_off2 6 rfl (by exact gd_) (by kernel_rfl) (by kernel_rfl) (by exact nop_) rfl (fun w hw => all_ hw) ?_ | refine sd_off3 6 rfl rfl rfl (by kernel_rfl) (by kernel_rfl) (by exact nop_) rfl (fun w hw => all_ hw) ?_
      first | refine sd_yes2 7 rfl (by exact gd_) (by kernel_rfl) (by kernel_rfl) (by exact nop_) (PuI.all (by exact pv_Su)) rfl (fun w hw => all_ hw) ?_ | refine sd_off2 7 rfl (by exact gd_) (by kernel_rfl) (by kernel_rfl) (by exact nop_) rfl (fun w hw => all_ hw) ?_ | refine sd_off3 7 rfl rfl rfl (by kernel_rfl) (by kernel_rfl) (by exact nop_) rfl (fun w hw => all_ hw) ?_
      first | refine sd_yes2 8 rfl (by exact gd_) (by kernel_rfl) (by kernel_rfl) (by exact nop_) (PuI.all (by exact pv_Su)) rfl (fun w hw => all_ hw) ?_ | refine sd_off2 8 rfl (by exact gd_) (by kernel_rfl) (by kernel_rfl) (by exact nop_) rfl (fun w hw => all_ hw) ?_ | refine sd_off3 8 rfl rfl rfl (by kernel_rfl) (by kernel_rfl) (by exact nop_) rfl (fun w hw => all_ hw) ?_
      first | refine sd_yes2 9 rfl (by exact gd_) (by kernel_rfl) (by kernel_rfl) (by exact nop_) (PuI.all (by exact pv_Su)) rfl (fun w hw => all_ hw) ?_ | refine sd_off2 9 rfl (by exact gd_) (by kernel_rfl) (by kernel_rfl) (by exact nop_) rfl (fun w hw => all_ hw) ?_ | refine sd_off3 9 rfl rfl rfl (by kernel_rfl) (by kernel_rfl) (by exact nop_) rfl (fun w hw => all_ hw) ?_
      refine sd_one 10 (by kernel_rfl) (sa_sl 10 rfl ?_)
      repeat refine su_Su ?_
      refine sl_call rfl rfl (by kernel_rfl) rfl Sub.refl (fn_same (just_c _ _ d[0].lt e[0].lt)) ?_
      rintro _ -
      rw [j0]
      refine sl_nil ?_
      refine se_sd (fun _ w hw => all_ hw) ?_
      refine sd_yes2 11 rfl (by exact gd_) (by kernel_rfl) (by kernel_rfl) (by exact nop_) (PuI.all (by exact pv_Su)) rfl (fun w hw => all_ hw) ?_
      refine sd_yes2 12 rfl (by exact gd_) (by kernel_rfl) (by kernel_rfl) (by exact nop_) (PuI.all (by exact pv_Su)) rfl (fun w hw => all_ hw) ?_
      first | refine sd_yes2 13 rfl (by exact gd_) (by kernel_rfl) (by kernel_rfl) (by exact nop_) (PuI.all (by exact pv_Su)) rfl (fun w hw => all_ hw) ?_ | refine sd_off2 13 rfl (by exact gd_) (by kernel_rfl) (by kernel_rfl) (by exact nop_) rfl (fun w hw => all_ hw) ?_ | refine sd_off3 13 rfl rfl rfl (by kernel_rfl) (by kernel_rfl) (by exact nop_) rfl (fun w hw => all_ hw) ?_
      first | refine sd_yes2 14 rfl (by exact gd_) (by kernel_rfl) (by kernel_rfl) (by exact nop_) (PuI.all (by exact pv_Su)) rfl (fun w hw => all_ hw) ?_ | refine sd_off2 14 rfl (by exact gd_) (by kernel_rfl) (by kernel_rfl) (by exact nop_) rfl (fun w hw => all_ hw) ?_ | refine sd_off3 14 rfl rfl rfl (by kernel_rfl) (by kernel_rfl) (by exact nop_) rfl (fun w hw => all_ hw) ?_
      first | refine sd_yes2 15 rfl (by exact gd_) (by kernel_rfl) (by kernel_rfl) (by exact nop_) (PuI.all (by exact pv_Su)) rfl (fun w hw => all_ hw) ?_ | refine sd_off2 15 rfl (by exact gd_) (by kernel_rfl) (by kernel_rfl) (by exact nop_) rfl (fun w hw => all_ hw) ?_ | refine sd_off3 15 rfl rfl rfl (by kernel_rfl) (by kernel_rfl) (by exact nop_) rfl (fun w hw => all_ hw) ?_
      first | refine sd_yes2 16 rfl (by exact gd_) (by kernel_rfl) (by kernel_rfl) (by exact nop_) (PuI.all (by exact pv_Su)) rfl (fun w hw => all_ hw) ?_ | refine sd_off2 16 rfl (by exact gd_) (by kernel_rfl) (by kernel_rfl) (by exact nop_) rfl (fun w hw => all_ hw) ?_ | refine sd_off3 16 rfl rfl rfl (by kernel_rfl) (by kernel_rfl) (by exact nop_) rfl (fun w hw => all_ hw) ?_
      first | refine sd_yes2 17 rfl (by exact gd_) (by kernel_rfl) (by kernel_rfl) (by exact nop_) (PuI.all (by exact pv_Su)) rfl (fun w hw => all_ hw) ?_ | refine sd_off2 17 rfl (by exact gd_) (by kernel_rfl) (by kernel_rfl) (by exact nop_) rfl (fun w hw => all_ hw) ?_ | refine sd_off3 17 rfl rfl rfl (by kernel_rfl) (by kernel_rfl) (by exact nop_) rfl (fun w hw => all_ hw) ?_
      first | refine sd_yes2 18 rfl (by exact gd_) (by kernel_rfl) (by kernel_rfl) (by exact nop_) (PuI.all (by exact pv_Su)) rfl (fun w hw => all_ hw) ?_ | refine sd_off2 18 rfl (by exact gd_) (by kernel_rfl) (by kernel_rfl) (by exact nop_) rfl (fun w hw => all_ hw) ?_ | refine sd_off3 18 rfl rfl rfl (by kernel_rfl) (by kernel_rfl) (by exact nop_) rfl (fun w hw => all_ hw) ?_
      first | refine sd_yes2 19 rfl (by exact gd_) (by kernel_rfl) (by kernel_rfl) (by exact nop_) (PuI.all (by exact pv_Su)) rfl (fun w hw => all_ hw) ?_ | refine sd_off2 19 rfl (by exact gd_) (by kernel_rfl) (by kernel_rfl) (by exact nop_) rfl (fun w hw => all_ hw) ?_ | refine sd_off3 19 rfl rfl rfl (by kernel_rfl) (by kernel_rfl) (by exact nop_) rfl (fun w hw => all_ hw) ?_
      refine sd_one 20 (by kernel_rfl) (sa_sl 20 rfl ?_)
      repeat refine su_Su ?_
      refine sl_call rfl rfl (by kernel_rfl) rfl Sub.refl (fn_same (just_c _ _ d[d.length - 1].lt (e[d.length - 1]'(by omega)).lt)) ?_
      rintro _ -
      rw [j1]
      refine sl_nil ?_
      refine se_sd (fun _ w hw => all_ hw) ?_
      refine sd_yes2 21 rfl (by exact gd_) (by kernel_rfl) (by kernel_rfl) (by exact nop_) (PuI.all (by exact pv_Su)) rfl (fun w hw => all_ hw) ?_
      refine sd_yes2 22 rfl (by exact gd_) (by kernel_rfl) (by kernel_rfl) (by exact nop_) (PuI.all (by exact pv_Su)) rfl (fun w hw => all_ hw) ?_
      first | refine sd_yes2 23 rfl (by exact gd_) (by kernel_rfl) (by kernel_rfl) (by exact nop_) (PuI.all (by exact pv_Su)) rfl (fun w hw => all_ hw) ?_ | refine sd_off2 23 rfl (by exact gd_) (by kernel_rfl) (by kernel_rfl) (by exact nop_) rfl (fun w hw => all_ hw) ?_ | refine sd_off3 23 rfl rfl rfl (by kernel_rfl) (by kernel_rfl) (by exact nop_) rfl (fun w hw => all_ hw) ?_
      first | refine sd_yes2 24 rfl (by exact gd_) (by kernel_rfl) (by kernel_rfl) (by exact nop_) (PuI.all (by exact pv_Su)) rfl (fun w hw => all_ hw) ?_ | refine sd_off2 24 rfl (by exact gd_) (by kernel_rfl) (by kernel_rfl) (by exact nop_) rfl (fun w hw => all_ hw) ?_ | refine sd_off3 24 rfl rfl rfl (by kernel_rfl) (by kernel_rfl) (by exact nop_) rfl (fun w hw => all_ hw) ?_
      first | refine sd_yes2 25 rfl (by exact gd_) (by kernel_rfl) (by kernel_rfl) (by exact nop_) (PuI.all (by exact pv_Su)) rfl (fun w hw => all_ hw) ?_ | refine sd_off2 25 rfl (by exact gd_) (by kernel_rfl) (by kernel_rfl) (by exact nop_) rfl (fun w hw => all_ hw) ?_ | refine sd_off3 25 rfl rfl rfl (by kernel_rfl) (by kernel_rfl) (by exact nop_) rfl (fun w hw => all_ hw) ?_
      first | refine sd_yes2 26 rfl (by exact gd_) (by kernel_rfl) (by kernel_rfl) (by exact nop_) (PuI.all (by exact pv_Su)) rfl (fun w hw => all_ hw) ?_ | refine sd_off2 26 rfl (by exact gd_) (by kernel_rfl) (by kernel_rfl) (by exact nop_) rfl (fun w hw => all_ hw) ?_ | refine sd_off3 26 rfl rfl rfl (by kernel_rfl) (by kernel_rfl) (by exact nop_) rfl (fun w hw => all_ hw) ?_
      first | refine sd_yes2 27 rfl (by exact gd_) (by kernel_rfl) (by kernel_rfl) (by exact nop_) (PuI.all (by exact pv_Su)) rfl (fun w hw => all_ hw) ?_ | refine sd_off2 27 rfl (by exact gd_) (by kernel_rfl) (by kernel_rfl) (by exact nop_) rfl (fun w hw => all_ hw) ?_ | refine sd_off3 27 rfl rfl rfl (by kernel_rfl) (by kernel_rfl) (by exact nop_) rfl (fun w hw => all_ hw) ?_
      first | refine sd_yes2 28 rfl (by exact gd_) (by kernel_rfl) (by kernel_rfl) (by exact nop_) (PuI.all (by exact pv_Su)) rfl (fun w hw => all_ hw) ?_ | refine sd_off2 28 rfl (by exact gd_) (by kernel_rfl) (by kernel_rfl) (by exact nop_) rfl (fun w hw => all_ hw) ?_ | refine sd_off3 28 rfl rfl rfl (by kernel_rfl) (by kernel_rfl) (by exact nop_) rfl (fun w hw => all_ hw) ?_
      first | refine sd_yes2 29 rfl (by exact gd_) (by kernel_rfl) (by kernel_rfl) (by exact nop_) (PuI.all (by exact pv_Su)) rfl (fun w hw => all_ hw) ?_ | refine sd_off2 29 rfl (by exact gd_) (by kernel_rfl) (by kernel_rfl) (by exact nop_) rfl (fun w hw => all_ hw) ?_ | refine sd_off3 29 rfl rfl rfl (by kernel_rfl) (by kernel_rfl) (by exact nop_) rfl (fun w hw => all_ hw) ?_
      first | refine sd_yes2 30 rfl (by exact gd_) (by kernel_rfl) (by kernel_rfl) (by exact nop_) (PuI.all (by exact pv_Su)) rfl (fun w hw => all_ hw) ?_ | refine sd_off2 30 rfl (by exact gd_) (by kernel_rfl) (by kernel_rfl) (by exact nop_) rfl (fun w hw => all_ hw) ?_ | refine sd_off3 30 rfl rfl rfl (by kernel_rfl) (by kernel_rfl) (by exact nop_) rfl (fun w hw => all_ hw) ?_
      refine sd_one 31 (by kernel_rfl) (sa_sl 31 rfl ?_)
      repeat refine su_Su ?_
      refine sl_call rfl rfl (by kernel_rfl) rfl Sub.refl (fn_same (just_c _ _ d[(d.length - 1) / 2].lt (e[(d.length - 1) / 2]'(by omega)).lt)) ?_
      rintro _ -
      rw [j2]
      refine sl_nil ?_
      refine se_sd (fun _ w hw => all_ hw) ?_
      refine sd_yes2 32 rfl (by exact gd_) (by kernel_rfl) (by kernel_rfl) (by exact nop_) (PuI.all (by exact pv_Su)) rfl (fun w hw => all_ hw) ?_
      refine sd_yes2 33 rfl (by exact gd_) (by kernel_rfl) (by kernel_rfl) (by exact nop_) (PuI.all (by exact pv_Su)) rfl (fun w hw => all_ hw) ?_
      refine sd_done (by kernel_rfl) ?_
      refine go_Su ?_
      exact se_ret1 () trivial rfl rfl (by exact sub_)
end Go.Proofs.Ytidphdlhghgglaa
/- Floats that came in; StatsSummaries at what came in. -/
namespace Go.Proofs.Ytidphdlhghgglaa
open Go.RowKit Go.ChangeShapes Go.WideShapes Go.Deep
section
variable {H : Type} {enc : TypeId × Value → H} {w : World} {base : Nat} {spare : Nat → Bool} {held : Bool} {fuel : Nat} {cs : List Value} {x : DataW H × List MemPlace}
theorem open_f64 (h : DataW.trod enc Try.prog w base spare held fuel 24 cs = some x) : ∃ b, cs = [Value.float .f64 b] ∧ b < 18446744073709551616 := by
  have ht := Try.underlying24
  cases fuel with
  | zero => simp [DataW.trod] at h
  | succ n =>
    unfold DataW.trod at h
    rw [ht] at h
    split at h <;> simp_all
    rename_i k b hk
    obtain ⟨h1, _⟩ := h
    have hw : (Lit.float .f64 b).wf = true := by simp_all
    simpa [Lit.wf] using hw
def FlsV (w : World) (v : Value) : Prop := ∃ (A : Option Addr) (c : Nat) (l : List Nat), v = .slice A l.length c ∧ Reads w 1 A l.length (l.map fl) ∧ (∀ x ∈ l, x < 18446744073709551616) ∧ l.length ≤ c ∧ c ≤ maxLen
theorem flat_fl (l : List Nat) : (l.flatMap fun n => [fl n]) = l.map fl := by
  induction l with
  | nil => rfl
  | cons a r ih =>
    rw [List.flatMap_cons, ih]
    rfl
theorem open_fls {v : Value} (h : DataW.trod enc Try.prog w base spare held fuel 22 v.cells.toList = some x) (hv : ∃ A n c, v = .slice A n c) : FlsV w v := by
  obtain ⟨A0, n0, c0, rfl⟩ := hv
  obtain ⟨A, n, c, xs, hcs, hl, hr, hk, hc, hm⟩ := open_rows (X := Nat) 1 (fun n => [fl n]) (fun n => n < 18446744073709551616) Try.underlying22 (by kernel_rfl) (fun _ _ _ h => open_f64 h) h
  rw [flat_fl] at hr
  subst hl
  exact ⟨A, c, xs, by simpa [Value.cells] using hcs, hr, fun x hx => (hk x hx).1, hc, hm⟩
end
theorem Summ_v {v : Value} {w : World} (h : FlsV w v) : Calls Try.prog 3 #[v] w fun e w' => e = .returned (.bool true) ∧ Fr Nil w w' := by
  obtain ⟨A, c, l, rfl, hr, hb, hc, hm⟩ := h
  unfold maxLen at hm
  exact Fn.top (lawSumm_ok (Vw.of_old .here hr) hb (by omega))
end Go.Proofs.Ytidphdlhghgglaa
/- StatsHistograms at what came in. -/
namespace Go.Proofs.Ytidphdlhghgglaa
open Go.RowKit
theorem lwH {b : Nat} (h : (Lit.float .f64 b).wf = true) : b < 18446744073709551616 := by simpa [Lit.wf] using h
theorem Hist_v {v : Value} {w : World} {b c : Nat} {k : Int} (hb : b < 18446744073709551616) (hc : c < 18446744073709551616) (hk : -9223372036854775808 ≤ k ∧ k ≤ 9223372036854775807) (h : FlsV w v) : Calls Try.prog 5 #[v, .float .f64 b, .float .f64 c, .int .i64 k] w fun e w' => e = .returned (.bool true) ∧ Fr Nil w w' := by
  obtain ⟨A, cc, l, rfl, hr, hl, h1, h2⟩ := h
  unfold maxLen at h2
  exact Fn.top (lawHist_ok (Vw.of_old .here hr) hl (by omega) hb hc hk)
end Go.Proofs.Ytidphdlhghgglaa
