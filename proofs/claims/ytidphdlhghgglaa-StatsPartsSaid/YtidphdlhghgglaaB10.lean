/- Several texts of one claim, one behind the other (Su, Pf). -/
import Derived.Test.YtidphdlhghgglaaB07
import Derived.Test.YtidphdlhghgglaaB09
/- StatsSummaries: its walk. -/
namespace Go.Proofs.Ytidphdlhghgglaa
open Go.RowKit
attribute [local irreducible] Go.Calls Go.Exit.then Go.Exit.inBlock Go.bodyPost Go.Code.wp Go.wpList
theorem pu_fneq {P : Program} {C : World → Prop} {n : Nat} {l : Env} {x y : Operand} {t t' ty : TypeId} {a b : Nat} (hx : ev l x = some (.float .f64 a)) (hy : ev l y = some (.float .f64 b)) : Pu P C n l (.binOp .neq t x y t') ty (.bool (!fEq a b)) := by
  unfold Pu
  intro q _ _ _ _ W hs _
  simp only [execOp, hs.ev hx, hs.ev hy]
  simp [go_sem, fEq]
  rfl
/-- One more into its place. -/
def insAt (e : List Fp) (k : Nat) (x : Fp) : List Fp := e.take k ++ [x] ++ e.drop k
theorem ins_len {e : List Fp} {k : Nat} {x : Fp} (hk : k ≤ e.length) : (insAt e k x).length = e.length + 1 := by
  unfold insAt
  simp
  omega
theorem ins_perm {e : List Fp} {k : Nat} {x : Fp} : (insAt e k x).Perm (e ++ [x]) := by
  unfold insAt
  rw [List.append_assoc]
  refine (List.perm_append_comm.append_left _).trans ?_
  rw [← List.append_assoc, List.take_append_drop]
theorem ins_sorted {e : List Fp} {k : Nat} {x : Fp} (hk : k ≤ e.length) (hs : e.Pairwise (fun a b => key a.x ≤ key b.x)) (h1 : ∀ i, (hi : i < k) → key (e[i]'(by omega)).x ≤ key x.x) (h2 : ∀ h : k < e.length, key x.x < key e[k].x) : (insAt e k x).Pairwise (fun a b => key a.x ≤ key b.x) := by
  have ht : ∀ a ∈ e.take k, key a.x ≤ key x.x := fun a ha => by
    obtain ⟨i, hi, rfl⟩ := List.mem_iff_getElem.1 ha
    rw [List.length_take] at hi
    rw [List.getElem_take]
    exact h1 i (by omega)
  have hd : ∀ b ∈ e.drop k, key x.x ≤ key b.x := fun b hb => by
    obtain ⟨i, hi, rfl⟩ := List.mem_iff_getElem.1 hb
    rw [List.length_drop] at hi
    rw [List.getElem_drop]
    have h3 := h2 (by omega)
    rcases Nat.eq_zero_or_pos i with h0 | h0
    · subst h0
      simp only [Nat.add_zero]
      omega
    · have := List.pairwise_iff_getElem.1 hs k (k + i) (by omega) (by omega) (by omega)
      omega
  unfold insAt
  rw [List.append_assoc, List.pairwise_append]
  refine ⟨hs.sublist (List.take_sublist _ _), ?_, fun a ha b hb => ?_⟩
  · rw [List.singleton_append, List.pairwise_cons]
    exact ⟨hd, hs.sublist (List.drop_sublist _ _)⟩
  · rw [List.singleton_append, List.mem_cons] at hb
    have h3 := ht a ha
    rcases hb with rfl | hb
    · exact h3
    · have := hd b hb
      omega
theorem sorted_keys {d e : List Fp} (hp : d.Perm e) (hd : d.Pairwise (fun a b => key a.x ≤ key b.x)) (he : e.Pairwise (fun a b => key a.x ≤ key b.x)) : d.map (fun a => key a.x) = e.map (fun a => key a.x) :=
  List.Perm.eq_of_pairwise (le := fun x y : Int => x ≤ y) (fun a b _ _ h1 h2 => Int.le_antisymm h1 h2) (List.pairwise_map.2 hd) (List.pairwise_map.2 he) (hp.map _)
theorem fp_nth {e : List Fp} {i : Nat} (h : i < e.length) : nth (e.map Fp.v) (i * 1) = some (.float .f64 e[i].x) := by
  rw [nth_eq, Nat.mul_one, List.getElem?_map, List.getElem?_eq_getElem h]
  rfl
theorem fp_take {e : List Fp} {k : Nat} : (e.map Fp.v).take (k * 1) = (e.take k).map Fp.v := by rw [Nat.mul_one, List.map_take]
theorem fp_drop {e : List Fp} {k : Nat} : (e.map Fp.v).drop (k * 1) = (e.drop k).map Fp.v := by rw [Nat.mul_one, List.map_drop]
theorem fp_one {e : List Fp} : ∀ u ∈ e.map Fp.v, u.oneCell' = true := by
  intro u hu
  obtain ⟨f, _, rfl⟩ := List.mem_map.1 hu
  rfl
theorem vw_fp_take {L : List Fa} {A : Option Addr} {c k : Nat} {e : List Fp} {t : TypeId} (h : At (own t 1 A e.length c (e.map Fp.v)) L) (hk : k ≤ e.length) : Vw L (fun w => Reads w 1 A k ((e.take k).map Fp.v)) := fun w hw => by
  have h1 := (Vw.of_own h w hw).take (k := k) hk
  rwa [fp_take] at h1
theorem vw_fp_drop {L : List Fa} {A : Option Addr} {c k : Nat} {e : List Fp} {t : TypeId} (h : At (own t 1 A e.length c (e.map Fp.v)) L) (hk : k ≤ e.length) (hc : e.length ≤ c) : Vw L (fun w => Reads w 1 (cutA A c k 1) (e.length - k) ((e.drop k).map Fp.v)) := fun w hw => by
  have h1 := (Vw.of_own h w hw).cut (k := k) hk hc
  rwa [fp_drop] at h1
structure Si where
  j : Nat
  e : List Fp
  A : Option Addr
  c : Nat
theorem nth_Su {φ : Prop} (h : φ := by (first | rfl | assumption)) : φ := h
theorem mid_Su {φ : Prop} (h : φ := by (first | exact Mid.all | exact Mid.all | exact Mid.head)) : φ := h
theorem sz_Su {φ : Prop} (h : φ := by (first | rfl | (rfl; first | done | fail))) : φ := h
theorem one_Su {φ : Prop} (h : φ := by (first | assumption | exact first | exact summ_one | exact one_bytes _ | (simp only [List.mem_cons, List.not_mem_nil, or_false, forall_eq_or_imp, forall_eq]; decide) | exact one_bytes _)) : φ := h
theorem set_Su {φ : Prop} (h : φ := by (first | (fail) | ((repeat (first | exact SetAt.here | apply SetAt.there)); first | done | fail))) : φ := h
theorem cl_Su {φ : Prop} (h : φ := by first | rfl | exact .t | exact .f | exact .t (by omega) | exact .f (by omega) | exact .u | exact .i (by (first | exact .t (by omega) | exact .f (by omega) | exact .u | exact .i (by omega) | exact .v (by omega) | exact .b (by omega) | exact .w | rfl | omega)) | exact .v (by omega) | exact .b (by omega) | exact .q (by omega) | exact .w | exact .b (by exact at_) rfl (by exact nth_Su) | exact .w (by exact at_) rfl rfl (by exact sz_Su) | exact .s (by exact at_) (by exact mid_Su) rfl rfl (by exact sz_Su) | exact .z rfl rfl ⟨by kernel_rfl⟩ | exact .b rfl rfl ⟨by kernel_rfl⟩ | exact .a rfl rfl ⟨by kernel_rfl⟩ | exact .o rfl | exact .s | exact .n | exact .p rfl | exact .q rfl | exact .c rfl | exact .d rfl | exact .n rfl rfl (by omega) | exact .a rfl rfl (by omega) | exact .p rfl rfl (by omega) (by omega) | exact .y rfl rfl (by omega) (by omega) | exact .o (by exact at_) (by omega) rfl (by exact nth_Su) | exact .m (by exact at_) (by omega) (by exact mid_Su) rfl rfl (by exact sz_Su) | exact .mlen (by exact at_) rfl | exact .t (by exact at_) rfl rfl (by first | exact True.intro | rfl) (by assumption) | exact .f (by exact at_) rfl rfl (by first | exact True.intro | rfl) (by assumption) rfl | exact .t1 (by exact at_) rfl rfl (by first | exact True.intro | rfl) (by assumption) | exact .f1 (by exact at_) rfl rfl (by first | exact True.intro | rfl) (by assumption) rfl | exact .r rfl rfl (by omega) (by omega) (by exact nth_Su) rfl | exact .s rfl (by omega) (by assumption) | exact at_ | assumption | exact .r rfl rfl | exact .h rfl rfl rfl (by omega) | exact .l rfl rfl rfl (by omega) (by omega) | exact .g rfl rfl rfl rfl (by omega) (by omega) | exact .h rfl rfl (toN_ (by omega)) (by omega) | exact .l rfl rfl (toN_ (by omega)) (by omega) (by omega) | exact .g rfl rfl (toN_ (by omega)) (toN_ (by omega)) (by omega) (by omega) | exact .o (by decide) | exact .f (by decide) | exact .n (by omega) (by first | decide | (show _ ≤ ((64 : Nat) : Int); omega)) | (constructor; (repeat (first | exact .t (by omega) | exact .f (by omega) | exact .u | exact .i (by omega) | exact .v (by omega) | exact .b (by omega) | exact .w | rfl | omega)); first | done | fail) | omega | (show _ ≤ ((64 : Nat) : Int); omega)) : φ := h
theorem pv_Su {φ : Prop} (h : φ := by constructor; (repeat exact cl_Su); first | done | fail) : φ := h
theorem su_Su {φ ψ : Prop} (k : ψ) (h : Hide ψ → φ := by (intro k; (first | refine sl_pu (PuI.sep (by exact pv_Su)) rfl ?_ | refine sl_yes rfl rfl ?_ | refine sl_no rfl rfl rfl ?_ | refine sl_off rfl rfl rfl ?_ | (fail)); exact k.out)) : φ := h ⟨k⟩
theorem rq_Su {φ ψ : Prop} (k : ψ) (h : Hide ψ → φ := by (intro k; (first | refine wq_pu (PuI.sep (by exact pv_Su)) rfl ?_ | refine wq_yes rfl rfl ?_ | refine wq_no rfl rfl rfl ?_ | refine wq_off rfl rfl rfl ?_ | (fail)); exact k.out)) : φ := h ⟨k⟩
theorem sto_Su {φ ψ : Prop} (k : ψ) (h : Hide ψ → φ := by (intro k; (first | refine sl_store rfl (by exact pick_) rfl rfl (by kernel_rfl) (by exact set_Su) ?_ | refine sl_store_whole rfl (by exact pick_) rfl (by exact sz_Su) (by exact sz_Su) (by exact one_Su) ?_); exact k.out)) : φ := h ⟨k⟩
theorem go_Su {φ ψ : Prop} (k : ψ) (h : Hide ψ → φ := by (intro k; (repeat (first | refine su_Su ?_ | refine so_ ?_ | refine sto_Su ?_)); exact k.out)) : φ := h ⟨k⟩
set_option maxRecDepth 100000 in
set_option maxHeartbeats 4000000 in
theorem lawSumm_ok {K : List Fa} {A : Option Addr} {c : Nat} {xs : List Nat} (hr : Vw K (fun w => Reads w 1 A xs.length (xs.map fl))) (hb : ∀ x ∈ xs, x < 18446744073709551616) (hn : xs.length ≤ 9223372036854775807) :
    Fn Try.prog 3 #[.slice A xs.length c] K (Ret (fun _ : Unit => True) (fun _ => .bool true) (fun _ => K)) := by
  refine fn_enter Try.func3 rfl _ Try.ntmps3 (by simp) [(0, .slice A xs.length c)] (args_of (by simp)) ?_
  refine go_Su ?_
  refine sl_call rfl rfl (by kernel_rfl) rfl Sub.refl awake30 ?_
  rintro _ -
  by_cases h200 : 200 < xs.length
  · refine go_Su ?_
    exact se_ret1 () trivial rfl rfl (by exact sub_)
  refine go_Su ?_
  refine sl_call rfl rfl (by kernel_rfl) rfl Sub.refl (summ_ok hr hb (by omega)) ?_
  rintro d ⟨hdp, hds⟩
  refine go_Su ?_
  refine sl_alloc rfl rfl rfl ?_; intro g3
  refine sl_store_whole (cl := summC d) rfl (by exact pick_) rfl rfl (by rfl) summ_one ?_
  refine go_Su ?_
  refine sc_bjoin (fun p : Si => [(3, .pointer (some ⟨g3, 0, none⟩)), (4, .slice p.A p.e.length p.c)]) (fun p => own 24 1 p.A p.e.length p.c (p.e.map Fp.v) :: blk g3 26 (summC d) :: K) (fun p => p.e.Perm (numsOf xs) ∧ p.e.Pairwise (fun a b => key a.x ≤ key b.x)) ?_ ?_
  · refine sc_for (fun p : Si => [(3, .pointer (some ⟨g3, 0, none⟩)), (4, .slice p.A p.e.length p.c), (16, .slice A xs.length c), (17, .int .i64 xs.length), (18, .int .i64 p.j)]) (fun p => own 24 1 p.A p.e.length p.c (p.e.map Fp.v) :: blk g3 26 (summC d) :: K) (fun p => p.j ≤ xs.length ∧ p.e.Perm (numsOf (xs.take p.j)) ∧ p.e.Pairwise (fun a b => key a.x ≤ key b.x)) (fun p => xs.length - p.j) ⟨0, [], none, 0⟩ (by exact has_) (Sub.own_nil (by exact sub_)) ⟨Nat.zero_le _, .refl _, .nil⟩ ?_
    rintro ⟨j, e, A1, c1⟩ ⟨hj, hep, hes⟩
    dsimp only at hj hep hes ⊢
    by_cases hlt : j < xs.length
    · have hlen := hep.length_eq
      have hlen2 := nums_len (xs.take j)
      rw [List.length_take] at hlen2
      have htk : xs.take (j + 1) = xs.take j ++ [xs[j]] := List.take_succ_eq_append_getElem hlt
      have hxb := hb _ (List.getElem_mem hlt)
      have hnx : nth (xs.map fl) (j * 1) = some (.float .f64 xs[j]) := by
        rw [nth_eq, Nat.mul_one, List.getElem?_map, List.getElem?_eq_getElem hlt]
        rfl
      refine sc_know (vw_form (L := own 24 1 A1 e.length c1 (e.map Fp.v) :: blk g3 26 (summC d) :: K) (hr.mono (by exact sub_)) (by omega)) ?_
      rintro ⟨ad, rfl⟩
      refine go_Su ?_
      refine sl_pu (pu_ldr (hr.mono (by exact sub_)) (by omega) rfl rfl hnx) rfl ?_
      refine go_Su ?_
      refine sl_pu (pu_fneq rfl rfl) rfl ?_
      rw [show (!fEq xs[j] xs[j]) = fnan xs[j] from rfl]
      cases hx : fnan xs[j] with
      | true =>
        have hsame : numsOf (xs.take (j + 1)) = numsOf (xs.take j) := by
          rw [htk, nums_app, nums_cons, dif_neg (by rw [hx]; simp)]
          exact List.append_nil _
        refine go_Su ?_
        refine se_round ⟨j + 1, e, A1, c1⟩ (by exact has_) (by exact sub_) ⟨hlt, by rw [hsame]; exact hep, hes⟩ (by show xs.length - (j + 1) < xs.length - j; omega)
      | false =>
        have hnew : numsOf (xs.take (j + 1)) = numsOf (xs.take j) ++ [⟨xs[j], hx, hxb⟩] := by
          rw [htk, nums_app, nums_cons, dif_pos ⟨hx, hxb⟩]
          rfl
        refine go_Su ?_
        refine sc_bjoin (fun k : Nat => [(3, .pointer (some ⟨g3, 0, none⟩)), (4, .slice A1 e.length c1), (6, .float .f64 xs[j]), (7, .int .i64 k), (16, .slice (some ad) xs.length c), (17, .int .i64 xs.length), (18, .int .i64 j)]) (fun _ => own 24 1 A1 e.length c1 (e.map Fp.v) :: blk g3 26 (summC d) :: K) (fun k => k ≤ e.length ∧ (∀ i, ∀ hi : i < e.length, i < k → key e[i].x ≤ key xs[j]) ∧ ∀ h : k < e.length, key xs[j] < key e[k].x) ?_ ?_
        · refine sc_for (fun k : Nat => [(3, .pointer (some ⟨g3, 0, none⟩)), (4, .slice A1 e.length c1), (6, .float .f64 xs[j]), (7, .int .i64 k), (16, .slice (some ad) xs.length c), (17, .int .i64 xs.length), (18, .int .i64 j)]) (fun _ => own 24 1 A1 e.length c1 (e.map Fp.v) :: blk g3 26 (summC d) :: K) (fun k => k ≤ e.length ∧ ∀ i, ∀ hi : i < e.length, i < k → key e[i].x ≤ key xs[j]) (fun k => e.length - k) 0 (by exact has_) (by exact sub_) ⟨Nat.zero_le _, fun i _ h => absurd h (Nat.not_lt_zero _)⟩ ?_
          rintro k ⟨hk, hle⟩
          by_cases hkl : k < e.length
          · have hnk := fp_nth hkl
            have hless := less_of hx e[k].nn
            refine sc_form (e := 24) (size := 1) (A := A1) (m := e.length) (by exact at_) (by omega) ?_
            rintro ge rfl
            refine go_Su ?_
            refine sl_call rfl rfl (by kernel_rfl) rfl Sub.refl (fn_same (less_c _ _ hxb e[k].lt)) ?_
            rintro _ -
            rw [hless]
            by_cases hc : key xs[j] < key e[k].x
            · rw [decide_eq_true hc]
              refine go_Su ?_
              exact se_mid k (by exact has_) (by exact sub_) ⟨hk, hle, fun _ => hc⟩
            · rw [decide_eq_false hc]
              refine go_Su ?_
              refine se_round (k + 1) (by exact has_) (by exact sub_) ⟨hkl, fun i hi hik => ?_⟩ (by omega)
              rcases Nat.lt_or_ge i k with h | h
              · exact hle i hi h
              · obtain rfl : i = k := by omega
                omega
          · obtain rfl : k = e.length := by omega
            refine go_Su ?_
            exact se_mid e.length (by exact has_) (by exact sub_) ⟨Nat.le_refl _, hle, fun h => absurd h (Nat.lt_irrefl _)⟩
        · rintro k ⟨hk, hle, hgt⟩
          refine sc_know (fun w hw => (own_len (e := 24) (size := 1) (A := A1) hw (by exact at_)).2) ?_
          rintro ⟨hec, hcm⟩
          have hil := ins_len (x := ⟨xs[j], hx, hxb⟩) hk
          have hmap : ((e.take k).map Fp.v ++ [Value.float .f64 xs[j]]) ++ (e.drop k).map Fp.v = (insAt e k ⟨xs[j], hx, hxb⟩).map Fp.v := by
            unfold insAt
            rw [List.map_append, List.map_append]
            rfl
          have hcnt : k + 1 + (e.length - k) = (insAt e k ⟨xs[j], hx, hxb⟩).length := by omega
          refine sd_drawn (fun W => AllP W []) (fun _ => true) (by kernel_rfl) 13 rfl ?_
          refine sd_yes2 1 rfl (by exact gd_) (by kernel_rfl) (by kernel_rfl) (by exact nop_) (PuI.all (by exact pv_Su)) rfl (fun w hw => all_ hw) ?_
          refine sd_yes2 2 rfl (by exact gd_) (by kernel_rfl) (by kernel_rfl) (by exact nop_) (PuI.all (by exact pv_Su)) rfl (fun w hw => all_ hw) ?_
          refine sd_yes2 3 rfl (by exact gd_) (by kernel_rfl) (by kernel_rfl) (by exact nop_) (PuI.all (by exact pv_Su)) rfl (fun w hw => all_ hw) ?_
          refine sd_yes2 5 rfl (by exact gd_) (by kernel_rfl) (by kernel_rfl) (by exact nop_) (PuI.all (by exact pv_Su)) rfl (fun w hw => all_ hw) ?_
          refine sd_yes2 8 rfl (by exact gd_) (by kernel_rfl) (by kernel_rfl) (by exact nop_) (PuI.all (by exact pv_Su)) rfl (fun w hw => all_ hw) ?_
          refine sd_yes2 9 rfl (by exact gd_) (by kernel_rfl) (by kernel_rfl) (by exact nop_) (PuI.all (by exact pv_Su)) rfl (fun w hw => all_ hw) ?_
          refine sd_yes2 10 rfl (by exact gd_) (by kernel_rfl) (by kernel_rfl) (by exact nop_) (PuI.all (by exact pv_Su)) rfl (fun w hw => all_ hw) ?_
          refine sd_two 0 6 (by kernel_rfl) (sa_sl 0 rfl ?_) (sa_sl 6 rfl ?_)
          · refine sl_build0 (e := 24) (size := 1) rfl (fun W => by kernel_rfl) rfl ?_
            intro g0
            refine sl_nil ?_
            refine se_sd (fun _ w hw => all_ hw) ?_
            refine sd_two 4 6 (by kernel_rfl) (sa_sl 4 rfl ?_) (sa_sl 6 rfl ?_)
            · refine sl_app (A := some ⟨g0, 0, none⟩) (k := 0) (c := 0) rfl (by exact pick_) rfl (vw_fp_take (A := A1) (c := c1) (e := e) (t := 24) (by exact at_) hk) fp_one rfl infoF64 (by decide) (by decide) rfl (by unfold maxLen; omega) (by omega) ?_
              intro A4 c4
              rw [Nat.zero_add, List.nil_append]
              refine sl_nil ?_
              refine se_sd (fun _ w hw => all_ hw) ?_
              refine sd_one 6 (by kernel_rfl) (sa_sl 6 rfl ?_)
              refine sl_build (size := 1) (e := 24) (cells := [Value.float .f64 xs[j]]) rfl (fun W => by kernel_rfl) rfl (by decide) rfl ?_
              intro g6
              refine sl_nil ?_
              refine se_sd (fun _ w hw => all_ hw) ?_
              refine sd_one 7 (by kernel_rfl) (sa_sl 7 rfl ?_)
              refine sl_app (A := A4) (k := k) (c := c4) rfl (by exact pick_) rfl (Vw.of_own (e := 24) (A := some ⟨g6, 0, none⟩) (c := 1) (by exact at_)) fl_one rfl infoF64 (by decide) (by decide) rfl (by unfold maxLen; omega) (by omega) ?_
              intro A7 c7
              refine sl_nil ?_
              refine se_sd (fun _ w hw => all_ hw) ?_
              refine sd_one 11 (by kernel_rfl) (sa_sl 11 rfl ?_)
              refine sl_app (A := A7) (k := k + 1) (c := c7) rfl (by exact pick_) rfl (vw_fp_drop (A := A1) (c := c1) (e := e) (t := 24) (by exact at_) hk hec) fp_one rfl infoF64 (by decide) (by decide) rfl (by unfold maxLen; omega) (by omega) ?_
              intro A11 c11
              rw [hmap, hcnt]
              refine sl_nil ?_
              refine se_sd (fun _ w hw => all_ hw) ?_
              refine sd_yes2 12 rfl (by exact gd_) (by kernel_rfl) (by kernel_rfl) (by exact nop_) (PuI.all (by exact pv_Su)) rfl (fun w hw => all_ hw) ?_
              refine sd_done (by kernel_rfl) ?_
              refine go_Su ?_
              exact se_round ⟨j + 1, insAt e k ⟨xs[j], hx, hxb⟩, A11, c11⟩ (by exact has_) (by exact sub_) ⟨hlt, by rw [hnew]; exact ins_perm.trans (hep.append_right _), ins_sorted hk hes (fun i hi => hle i (by omega) hi) hgt⟩ (by show xs.length - (j + 1) < xs.length - j; omega)
            · refine sl_build (size := 1) (e := 24) (cells := [Value.float .f64 xs[j]]) rfl (fun W => by kernel_rfl) rfl (by decide) rfl ?_
              intro g6
              refine sl_nil ?_
              refine se_sd (fun _ w hw => all_ hw) ?_
              refine sd_one 4 (by kernel_rfl) (sa_sl 4 rfl ?_)
              refine sl_app (A := some ⟨g0, 0, none⟩) (k := 0) (c := 0) rfl (by exact pick_) rfl (vw_fp_take (A := A1) (c := c1) (e := e) (t := 24) (by exact at_) hk) fp_one rfl infoF64 (by decide) (by decide) rfl (by unfold maxLen; omega) (by omega) ?_
              intro A4 c4
              rw [Nat.zero_add, List.nil_append]
              refine sl_nil ?_
              refine se_sd (fun _ w hw => all_ hw) ?_
              refine sd_one 7 (by kernel_rfl) (sa_sl 7 rfl ?_)
              refine sl_app (A := A4) (k := k) (c := c4) rfl (by exact pick_) rfl (Vw.of_own (e := 24) (A := some ⟨g6, 0, none⟩) (c := 1) (by exact at_)) fl_one rfl infoF64 (by decide) (by decide) rfl (by unfold maxLen; omega) (by omega) ?_
              intro A7 c7
              refine sl_nil ?_
              refine se_sd (fun _ w hw => all_ hw) ?_
              refine sd_one 11 (by kernel_rfl) (sa_sl 11 rfl ?_)
              refine sl_app (A := A7) (k := k + 1) (c := c7) rfl (by exact pick_) rfl (vw_fp_drop (A := A1) (c := c1) (e := e) (t := 24) (by exact at_) hk hec) fp_one rfl infoF64 (by decide) (by decide) rfl (by unfold maxLen; omega) (by omega) ?_
              intro A11 c11
              rw [hmap, hcnt]
              refine sl_nil ?_
              refine se_sd (fun _ w hw => all_ hw) ?_
              refine sd_yes2 12 rfl (by exact gd_) (by kernel_rfl) (by kernel_rfl) (by exact nop_) (PuI.all (by exact pv_Su)) rfl (fun w hw => all_ hw) ?_
              refine sd_done (by kernel_rfl) ?_
              refine go_Su ?_
              exact se_round ⟨j + 1, insAt e k ⟨xs[j], hx, hxb⟩, A11, c11⟩ (by exact has_) (by exact sub_) ⟨hlt, by rw [hnew]; exact ins_perm.trans (hep.append_right _), ins_sorted hk hes (fun i hi => hle i (by omega) hi) hgt⟩ (by show xs.length - (j + 1) < xs.length - j; omega)
          · refine sl_build (size := 1) (e := 24) (cells := [Value.float .f64 xs[j]]) rfl (fun W => by kernel_rfl) rfl (by decide) rfl ?_
            intro g6
            refine sl_nil ?_
            refine se_sd (fun _ w hw => all_ hw) ?_
            refine sd_one 0 (by kernel_rfl) (sa_sl 0 rfl ?_)
            refine sl_build0 (e := 24) (size := 1) rfl (fun W => by kernel_rfl) rfl ?_
            intro g0
            refine sl_nil ?_
            refine se_sd (fun _ w hw => all_ hw) ?_
            refine sd_one 4 (by kernel_rfl) (sa_sl 4 rfl ?_)
            refine sl_app (A := some ⟨g0, 0, none⟩) (k := 0) (c := 0) rfl (by exact pick_) rfl (vw_fp_take (A := A1) (c := c1) (e := e) (t := 24) (by exact at_) hk) fp_one rfl infoF64 (by decide) (by decide) rfl (by unfold maxLen; omega) (by omega) ?_
            intro A4 c4
            rw [Nat.zero_add, List.nil_append]
            refine sl_nil ?_
            refine se_sd (fun _ w hw => all_ hw) ?_
            refine sd_one 7 (by kernel_rfl) (sa_sl 7 rfl ?_)
            refine sl_app (A := A4) (k := k) (c := c4) rfl (by exact pick_) rfl (Vw.of_own (e := 24) (A := some ⟨g6, 0, none⟩) (c := 1) (by exact at_)) fl_one rfl infoF64 (by decide) (by decide) rfl (by unfold maxLen; omega) (by omega) ?_
            intro A7 c7
            refine sl_nil ?_
            refine se_sd (fun _ w hw => all_ hw) ?_
            refine sd_one 11 (by kernel_rfl) (sa_sl 11 rfl ?_)
            refine sl_app (A := A7) (k := k + 1) (c := c7) rfl (by exact pick_) rfl (vw_fp_drop (A := A1) (c := c1) (e := e) (t := 24) (by exact at_) hk hec) fp_one rfl infoF64 (by decide) (by decide) rfl (by unfold maxLen; omega) (by omega) ?_
            intro A11 c11
            rw [hmap, hcnt]
            refine sl_nil ?_
            refine se_sd (fun _ w hw => all_ hw) ?_
            refine sd_yes2 12 rfl (by exact gd_) (by kernel_rfl) (by kernel_rfl) (by exact nop_) (PuI.all (by exact pv_Su)) rfl (fun w hw => all_ hw) ?_
            refine sd_done (by kernel_rfl) ?_
            refine go_Su ?_
            exact se_round ⟨j + 1, insAt e k ⟨xs[j], hx, hxb⟩, A11, c11⟩ (by exact has_) (by exact sub_) ⟨hlt, by rw [hnew]; exact ins_perm.trans (hep.append_right _), ins_sorted hk hes (fun i hi => hle i (by omega) hi) hgt⟩ (by show xs.length - (j + 1) < xs.length - j; omega)
    · obtain rfl : j = xs.length := by omega
      rw [List.take_length] at hep
      refine go_Su ?_
      exact se_mid ⟨xs.length, e, A1, c1⟩ (by exact has_) (by exact sub_) ⟨hep, hes⟩
  · rintro ⟨j, e, A1, c1⟩ ⟨hep, hes⟩
    dsimp only at hep hes ⊢
    have hde : d.Perm e := hdp.trans hep.symm
    have hkeys := sorted_keys hde hds hes
    have hl := hde.length_eq
    have hlx := nums_len xs
    have hle := hep.length_eq
    have hkk : ∀ i, ∀ h1 : i < d.length, ∀ h2 : i < e.length, key d[i].x = key e[i].x := fun i h1 h2 => by
      have := congrArg (fun l : List Int => l[i]?) hkeys
      simpa [h1, h2] using this
    by_cases h0 : e.length = 0
    · obtain rfl : e = [] := List.eq_nil_of_length_eq_zero h0
      obtain rfl : d = [] := List.eq_nil_of_length_eq_zero (by omega)
      rw [show summC [] = [.int .i64 0, .float .f64 9221120237041090561, .float .f64 9221120237041090561, .float .f64 9221120237041090561] from rfl]
      have hnn : (!fEq 9221120237041090561 9221120237041090561) = true := by
        show fnan 9221120237041090561 = true
        rw [fnan_eq]
        rfl
      refine go_Su ?_
      refine sl_pu (pu_fneq rfl rfl) rfl ?_
      rw [hnn]
      refine go_Su ?_
      refine sl_pu (pu_fneq rfl rfl) rfl ?_
      rw [hnn]
      refine go_Su ?_
      refine sl_pu (pu_fneq rfl rfl) rfl ?_
      rw [hnn]
      refine go_Su ?_
      exact se_ret1 () trivial rfl rfl (by exact sub_)
    · rw [summC_ne (by omega)]
      refine sc_form (e := 24) (size := 1) (A := A1) (m := e.length) (by exact at_) (by omega) ?_
      rintro ge rfl
      have m0 : nth (e.map Fp.v) (0 * 1) = some (.float .f64 e[0].x) := fp_nth (by omega)
      have m1 : nth (e.map Fp.v) (((e.length : Int) - 1).toNat * 1) = some (.float .f64 (e[d.length - 1]'(by omega)).x) := by
        rw [show ((e.length : Int) - 1).toNat = d.length - 1 by omega]
        exact fp_nth (by omega)
      have m2 : nth (e.map Fp.v) ((((e.length : Int) - 1) / 2).toNat * 1) = some (.float .f64 (e[(d.length - 1) / 2]'(by omega)).x) := by
        rw [show (((e.length : Int) - 1) / 2).toNat = (d.length - 1) / 2 by omega]
        exact fp_nth (by omega)
      have j0 := just_key d[0].nn e[0].nn (hkk 0 (by omega) (by omega))
      have j1 := just_key d[d.length - 1].nn (e[d.length - 1]'(by omega)).nn (hkk (d.length - 1) (by omega) (by omega))
      have j2 := just_key d[(d.length - 1) / 2].nn (e[(d.length - 1) / 2]'(by omega)).nn (hkk ((d.length - 1) / 2) (by omega) (by omega))
      refine go_Su ?_
      refine sd_drawn (fun W => AllP W [blk g3 26 [.int .i64 d.length, .float .f64 d[0].x, .float .f64 d[d.length - 1].x, .float .f64 d[(d.length - 1) / 2].x], own 24 1 (some ⟨ge, 0, none⟩) e.length c1 (e.map Fp.v)]) (fun _ => true) (by kernel_rfl) 34 rfl ?_
      refine sd_yes2 0 rfl (by exact gd_) (by kernel_rfl) (by kernel_rfl) (by exact nop_) (PuI.all (by exact pv_Su)) rfl (fun w hw => all_ hw) ?_
      refine sd_yes2 1 rfl (by exact gd_) (by kernel_rfl) (by kernel_rfl) (by exact nop_) (PuI.all (by exact pv_Su)) rfl (fun w hw => all_ hw) ?_
      refine sd_yes2 2 rfl (by exact gd_) (by kernel_rfl) (by kernel_rfl) (by exact nop_) (PuI.all (by exact pv_Su)) rfl (fun w hw => all_ hw) ?_
      refine sd_yes2 3 rfl (by exact gd_) (by kernel_rfl) (by kernel_rfl) (by exact nop_) (PuI.all (by exact pv_Su)) rfl (fun w hw => all_ hw) ?_
      refine sd_yes2 4 rfl (by exact gd_) (by kernel_rfl) (by kernel_rfl) (by exact nop_) (PuI.all (by exact pv_Su)) rfl (fun w hw => all_ hw) ?_
      first | refine sd_yes2 5 rfl (by exact gd_) (by kernel_rfl) (by kernel_rfl) (by exact nop_) (PuI.all (by exact pv_Su)) rfl (fun w hw => all_ hw) ?_ | refine sd_off2 5 rfl (by exact gd_) (by kernel_rfl) (by kernel_rfl) (by exact nop_) rfl (fun w hw => all_ hw) ?_ | refine sd_off3 5 rfl rfl rfl (by kernel_rfl) (by kernel_rfl) (by exact nop_) rfl (fun w hw => all_ hw) ?_
      first | refine sd_yes2 6 rfl (by exact gd_) (by kernel_rfl) (by kernel_rfl) (by exact nop_) (PuI.all (by exact pv_Su)) rfl (fun w hw => all_ hw) ?_ | refine sd_off2 6 rfl (by exact gd_) (by kernel_rfl) (by kernel_rfl) (by exact nop_) rfl (fun w hw => all_ hw) ?_ | refine sd_off3 6 rfl rfl rfl (by kernel_rfl) (by kernel_rfl) (by exact nop_) rfl (fun w hw => all_ hw) ?_
      first | refine sd_yes2 7 rfl (by exact gd_) (by kernel_rfl) (by kernel_rfl) (by exact nop_) (PuI.all (by exact pv_Su)) rfl (fun w hw => all_ hw) ?_ | refine sd_off2 7 rfl (by exact gd_) (by kernel_rfl) (by kernel_rfl) (by exact nop_) rfl (fun w hw => all_ hw) ?_ | refine sd_off3 7 rfl rfl rfl (by kernel_rfl) (by kernel_rfl) (by exact nop_) rfl (fun w hw => all_ hw) ?_
      first | refine sd_yes2 8 rfl (by exact gd_) (by kernel_rfl) (by kernel_rfl) (by exact nop_) (PuI.all (by exact pv_Su)) rfl (fun w hw => all_ hw) ?_ | refine sd_off2 8 rfl (by exact gd_) (by kernel_rfl) (by kernel_rfl) (by exact nop_) rfl (fun w hw => all_ hw) ?_ | refine sd_off3 8 rfl rfl rfl (by kernel_rfl) (by kernel_rfl) (by exact nop_) rfl (fun w hw => all_ hw) ?_
      first | refine sd_yes2 9 rfl (by exact gd_) (by kernel_rfl) (by kernel_rfl) (by exact nop_) (PuI.all (by exact pv_Su)) rfl (fun w hw => all_ hw) ?_ | refine sd_off2 9 rfl (by exact gd_) (by kernel_rfl) (by kernel_rfl) (by exact nop_) rfl (fun w hw => all_ hw) ?_ | refine sd_off3 9 rfl rfl rfl (by kernel_rfl) (by kernel_rfl) (by exact nop_) rfl (fun w hw => all_ hw) ?_
      refine sd_one 10 (by kernel_rfl) (sa_sl 10 rfl ?_)
      repeat refine su_Su ?_
      refine sl_call rfl rfl (by kernel_rfl) rfl Sub.refl (fn_same (just_c _ _ d[0].lt e[0].lt)) ?_
      rintro _ -
      rw [j0]
      refine sl_nil ?_
      refine se_sd (fun _ w hw => all_ hw) ?_
      refine sd_yes2 11 rfl (by exact gd_) (by kernel_rfl) (by kernel_rfl) (by exact nop_) (PuI.all (by exact pv_Su)) rfl (fun w hw => all_ hw) ?_
      refine sd_yes2 12 rfl (by exact gd_) (by kernel_rfl) (by kernel_rfl) (by exact nop_) (PuI.all (by exact pv_Su)) rfl (fun w hw => all_ hw) ?_
      first | refine sd_yes2 13 rfl (by exact gd_) (by kernel_rfl) (by kernel_rfl) (by exact nop_) (PuI.all (by exact pv_Su)) rfl (fun w hw => all_ hw) ?_ | refine sd_off2 13 rfl (by exact gd_) (by kernel_rfl) (by kernel_rfl) (by exact nop_) rfl (fun w hw => all_ hw) ?_ | refine sd_off3 13 rfl rfl rfl (by kernel_rfl) (by kernel_rfl) (by exact nop_) rfl (fun w hw => all_ hw) ?_
      first | refine sd_yes2 14 rfl (by exact gd_) (by kernel_rfl) (by kernel_rfl) (by exact nop_) (PuI.all (by exact pv_Su)) rfl (fun w hw => all_ hw) ?_ | refine sd_off2 14 rfl (by exact gd_) (by kernel_rfl) (by kernel_rfl) (by exact nop_) rfl (fun w hw => all_ hw) ?_ | refine sd_off3 14 rfl rfl rfl (by kernel_rfl) (by kernel_rfl) (by exact nop_) rfl (fun w hw => all_ hw) ?_
      first | refine sd_yes2 15 rfl (by exact gd_) (by kernel_rfl) (by kernel_rfl) (by exact nop_) (PuI.all (by exact pv_Su)) rfl (fun w hw => all_ hw) ?_ | refine sd_off2 15 rfl (by exact gd_) (by kernel_rfl) (by kernel_rfl) (by exact nop_) rfl (fun w hw => all_ hw) ?_ | refine sd_off3 15 rfl rfl rfl (by kernel_rfl) (by kernel_rfl) (by exact nop_) rfl (fun w hw => all_ hw) ?_
      first | refine sd_yes2 16 rfl (by exact gd_) (by kernel_rfl) (by kernel_rfl) (by exact nop_) (PuI.all (by exact pv_Su)) rfl (fun w hw => all_ hw) ?_ | refine sd_off2 16 rfl (by exact gd_) (by kernel_rfl) (by kernel_rfl) (by exact nop_) rfl (fun w hw => all_ hw) ?_ | refine sd_off3 16 rfl rfl rfl (by kernel_rfl) (by kernel_rfl) (by exact nop_) rfl (fun w hw => all_ hw) ?_
      first | refine sd_yes2 17 rfl (by exact gd_) (by kernel_rfl) (by kernel_rfl) (by exact nop_) (PuI.all (by exact pv_Su)) rfl (fun w hw => all_ hw) ?_ | refine sd_off2 17 rfl (by exact gd_) (by kernel_rfl) (by kernel_rfl) (by exact nop_) rfl (fun w hw => all_ hw) ?_ | refine sd_off3 17 rfl rfl rfl (by kernel_rfl) (by kernel_rfl) (by exact nop_) rfl (fun w hw => all_ hw) ?_
      first | refine sd_yes2 18 rfl (by exact gd_) (by kernel_rfl) (by kernel_rfl) (by exact nop_) (PuI.all (by exact pv_Su)) rfl (fun w hw => all_ hw) ?_ | refine sd_off2 18 rfl (by exact gd_) (by kernel_rfl) (by kernel_rfl) (by exact nop_) rfl (fun w hw => all_ hw) ?_ | refine sd_off3 18 rfl rfl rfl (by kernel_rfl) (by kernel_rfl) (by exact nop_) rfl (fun w hw => all_ hw) ?_
      first | refine sd_yes2 19 rfl (by exact gd_) (by kernel_rfl) (by kernel_rfl) (by exact nop_) (PuI.all (by exact pv_Su)) rfl (fun w hw => all_ hw) ?_ | refine sd_off2 19 rfl (by exact gd_) (by kernel_rfl) (by kernel_rfl) (by exact nop_) rfl (fun w hw => all_ hw) ?_ | refine sd_off3 19 rfl rfl rfl (by kernel_rfl) (by kernel_rfl) (by exact nop_) rfl (fun w hw => all_ hw) ?_
      refine sd_one 20 (by kernel_rfl) (sa_sl 20 rfl ?_)
      repeat refine su_Su ?_
      refine sl_call rfl rfl (by kernel_rfl) rfl Sub.refl (fn_same (just_c _ _ d[d.length - 1].lt (e[d.length - 1]'(by omega)).lt)) ?_
      rintro _ -
      rw [j1]
      refine sl_nil ?_
      refine se_sd (fun _ w hw => all_ hw) ?_
      refine sd_yes2 21 rfl (by exact gd_) (by kernel_rfl) (by kernel_rfl) (by exact nop_) (PuI.all (by exact pv_Su)) rfl (fun w hw => all_ hw) ?_
      refine sd_yes2 22 rfl (by exact gd_) (by kernel_rfl) (by kernel_rfl) (by exact nop_) (PuI.all (by exact pv_Su)) rfl (fun w hw => all_ hw) ?_
      first | refine sd_yes2 23 rfl (by exact gd_) (by kernel_rfl) (by kernel_rfl) (by exact nop_) (PuI.all (by exact pv_Su)) rfl (fun w hw => all_ hw) ?_ | refine sd_off2 23 rfl (by exact gd_) (by kernel_rfl) (by kernel_rfl) (by exact nop_) rfl (fun w hw => all_ hw) ?_ | refine sd_off3 23 rfl rfl rfl (by kernel_rfl) (by kernel_rfl) (by exact nop_) rfl (fun w hw => all_ hw) ?_
      first | refine sd_yes2 24 rfl (by exact gd_) (by kernel_rfl) (by kernel_rfl) (by exact nop_) (PuI.all (by exact pv_Su)) rfl (fun w hw => all_ hw) ?_ | refine sd_off2 24 rfl (by exact gd_) (by kernel_rfl) (by kernel_rfl) (by exact nop_) rfl (fun w hw => all_ hw) ?_ | refine sd_off3 24 rfl rfl rfl (by kernel_rfl) (by kernel_rfl) (by exact nop_) rfl (fun w hw => all_ hw) ?_
      first | refine sd_yes2 25 rfl (by exact gd_) (by kernel_rfl) (by kernel_rfl) (by exact nop_) (PuI.all (by exact pv_Su)) rfl (fun w hw => all_ hw) ?_ | refine sd_off2 25 rfl (by exact gd_) (by kernel_rfl) (by kernel_rfl) (by exact nop_) rfl (fun w hw => all_ hw) ?_ | refine sd_off3 25 rfl rfl rfl (by kernel_rfl) (by kernel_rfl) (by exact nop_) rfl (fun w hw => all_ hw) ?_
      first | refine sd_yes2 26 rfl (by exact gd_) (by kernel_rfl) (by kernel_rfl) (by exact nop_) (PuI.all (by exact pv_Su)) rfl (fun w hw => all_ hw) ?_ | refine sd_off2 26 rfl (by exact gd_) (by kernel_rfl) (by kernel_rfl) (by exact nop_) rfl (fun w hw => all_ hw) ?_ | refine sd_off3 26 rfl rfl rfl (by kernel_rfl) (by kernel_rfl) (by exact nop_) rfl (fun w hw => all_ hw) ?_
      first | refine sd_yes2 27 rfl (by exact gd_) (by kernel_rfl) (by kernel_rfl) (by exact nop_) (PuI.all (by exact pv_Su)) rfl (fun w hw => all_ hw) ?_ | refine sd_off2 27 rfl (by exact gd_) (by kernel_rfl) (by kernel_rfl) (by exact nop_) rfl (fun w hw => all_ hw) ?_ | refine sd_off3 27 rfl rfl rfl (by kernel_rfl) (by kernel_rfl) (by exact nop_) rfl (fun w hw => all_ hw) ?_
      first | refine sd_yes2 28 rfl (by exact gd_) (by kernel_rfl) (by kernel_rfl) (by exact nop_) (PuI.all (by exact pv_Su)) rfl (fun w hw => all_ hw) ?_ | refine sd_off2 28 rfl (by exact gd_) (by kernel_rfl) (by kernel_rfl) (by exact nop_) rfl (fun w hw => all_ hw) ?_ | refine sd_off3 28 rfl rfl rfl (by kernel_rfl) (by kernel_rfl) (by exact nop_) rfl (fun w hw => all_ hw) ?_
      first | refine sd_yes2 29 rfl (by exact gd_) (by kernel_rfl) (by kernel_rfl) (by exact nop_) (PuI.all (by exact pv_Su)) rfl (fun w hw => all_ hw) ?_ | refine sd_off2 29 rfl (by exact gd_) (by kernel_rfl) (by kernel_rfl) (by exact nop_) rfl (fun w hw => all_ hw) ?_ | refine sd_off3 29 rfl rfl rfl (by kernel_rfl) (by kernel_rfl) (by exact nop_) rfl (fun w hw => all_ hw) ?_
      first | refine sd_yes2 30 rfl (by exact gd_) (by kernel_rfl) (by kernel_rfl) (by exact nop_) (PuI.all (by exact pv_Su)) rfl (fun w hw => all_ hw) ?_ | refine sd_off2 30 rfl (by exact gd_) (by kernel_rfl) (by kernel_rfl) (by exact nop_) rfl (fun w hw => all_ hw) ?_ | refine sd_off3 30 rfl rfl rfl (by kernel_rfl) (by kernel_rfl) (by exact nop_) rfl (fun w hw => all_ hw) ?_
      refine sd_one 31 (by kernel_rfl) (sa_sl 31 rfl ?_)
      repeat refine su_Su ?_
      refine sl_call rfl rfl (by kernel_rfl) rfl Sub.refl (fn_same (just_c _ _ d[(d.length - 1) / 2].lt (e[(d.length - 1) / 2]'(by omega)).lt)) ?_
      rintro _ -
      rw [j2]
      refine sl_nil ?_
      refine se_sd (fun _ w hw => all_ hw) ?_
      refine sd_yes2 32 rfl (by exact gd_) (by kernel_rfl) (by kernel_rfl) (by exact nop_) (PuI.all (by exact pv_Su)) rfl (fun w hw => all_ hw) ?_
      refine sd_yes2 33 rfl (by exact gd_) (by kernel_rfl) (by kernel_rfl) (by exact nop_) (PuI.all (by exact pv_Su)) rfl (fun w hw => all_ hw) ?_
      refine sd_done (by kernel_rfl) ?_
      refine go_Su ?_
      exact se_ret1 () trivial rfl rfl (by exact sub_)
end Go.Proofs.Ytidphdlhghgglaa
/- A share of so many: a product that stays within. Plain. -/
namespace Go.Proofs.Ytidphdlhghgglaa
open Go.RowKit
theorem cut_even_le {n drop B : Nat} (s : Bool) (h : n ≤ B * 2 ^ drop) : Ieee.Toward.even.cut s n drop ≤ B := by
  unfold Ieee.Toward.cut
  simp only
  have hlog : n < 2 ^ (n.log2 + 1) := Nat.lt_log2_self
  by_cases hd : drop ≤ n.log2 + 2
  · rw [Nat.min_eq_left hd, Nat.shiftLeft_eq, Nat.one_mul]
    have hp := Nat.two_pow_pos drop
    generalize 2 ^ drop = g at h hp ⊢
    have h1 := Nat.div_add_mod n g
    have h2 := Nat.mod_lt n hp
    generalize n / g = lo at h1 ⊢
    generalize n % g = re at h1 h2 ⊢
    have h3 : (decide (g < 2 * re) || g == 2 * re && lo % 2 == 1).toNat ≤ 1 := Bool.toNat_le _
    rcases Nat.eq_zero_or_pos re with h0 | h0
    · subst h0
      have e : (decide (g < 2 * 0) || g == 2 * 0 && lo % 2 == 1).toNat = 0 := by
        rw [decide_eq_false (by omega), show (g == 2 * 0) = false by rw [beq_eq_false_iff_ne]; omega]
        rfl
      rw [e]
      have : lo * g ≤ B * g := by rw [Nat.mul_comm lo]; omega
      exact Nat.le_of_mul_le_mul_right this hp
    · have : lo * g < B * g := by rw [Nat.mul_comm lo]; omega
      have := Nat.lt_of_mul_lt_mul_right this
      omega
  · rw [Nat.min_eq_right (by omega), Nat.shiftLeft_eq, Nat.one_mul]
    have h4 : 2 ^ (n.log2 + 2) = 2 ^ (n.log2 + 1) * 2 := Nat.pow_succ ..
    generalize 2 ^ (n.log2 + 1) = q at hlog h4
    rw [h4, Nat.div_eq_of_lt (by omega), Nat.mod_eq_of_lt (by omega)]
    rw [decide_eq_false (by omega), show (q * 2 == 2 * n) = false by rw [beq_eq_false_iff_ne]; omega]
    exact Nat.zero_le _
theorem fiN_val : ∀ N, 0 < N → N < 64 → fiN N = (N.log2 + 1022) * 4503599627370496 + N * 2 ^ (52 - N.log2) := by
  have h : (List.range 64).all (fun N => N == 0 || decide (fiN N = (N.log2 + 1022) * 4503599627370496 + N * 2 ^ (52 - N.log2))) = true := by decide +kernel
  intro N h0 hN
  have h1 := List.all_eq_true.1 h N (List.mem_range.2 hN)
  simp only [Bool.or_eq_true, beq_iff_eq, decide_eq_true_eq] at h1
  rcases h1 with h1 | h1
  · omega
  · exact h1
theorem near_le {m N : Nat} {i : Int} (s : Bool) (hN : N < 64) (h : m * 2 ^ i.toNat ≤ N * 2 ^ (-i).toNat) : ∃ r, r ≤ fiN N ∧ Ieee.double.nearest s m i = Ieee.double.word s r := by
  rcases Nat.eq_zero_or_pos m with hm | hm
  · subst hm
    refine ⟨0, Nat.zero_le _, ?_⟩
    unfold Ieee.Format.nearest
    rw [if_pos rfl]
  have hp1 := Nat.two_pow_pos i.toNat
  have hp2 := Nat.two_pow_pos (-i).toNat
  have hN0 : 0 < N := by
    rcases Nat.eq_zero_or_pos N with h0 | h0
    · subst h0
      have := Nat.mul_pos hm hp1
      omega
    · exact h0
  have hlo : 2 ^ m.log2 ≤ m := Nat.log2_self_le (by omega)
  have hhi : m < 2 ^ (m.log2 + 1) := Nat.lt_log2_self
  have hNl : 2 ^ N.log2 ≤ N := Nat.log2_self_le (by omega)
  have hNh : N < 2 ^ (N.log2 + 1) := Nat.lt_log2_self
  have hN6 : N.log2 ≤ 5 := by
    have := (Nat.log2_lt (by omega : N ≠ 0)).2 (show N < 2 ^ 6 by omega)
    omega
  have htop : i + (m.log2 : Int) ≤ (N.log2 : Int) := by
    have h1 : 2 ^ (m.log2 + i.toNat) < 2 ^ (N.log2 + 1 + (-i).toNat) := by
      rw [Nat.pow_add, Nat.pow_add 2 (N.log2 + 1)]
      exact Nat.lt_of_le_of_lt (Nat.le_trans (Nat.mul_le_mul_right _ hlo) h) (Nat.mul_lt_mul_of_pos_right hNh hp2)
    have h2 := (Nat.pow_lt_pow_iff_right (by decide : 1 < 2)).1 h1
    omega
  unfold Ieee.Format.nearest
  rw [if_neg (by omega)]
  simp only [lp_eq, fb_eq, bi_eq, ir_eq]
  obtain ⟨last, hl⟩ : ∃ last, max (i + (m.log2 : Int) - ((52 : Nat) : Int)) (-1074) = last := ⟨_, rfl⟩
  rw [hl]
  obtain ⟨L, hL⟩ : ∃ L : Nat, (last - -1074).toNat = L := ⟨_, rfl⟩
  rw [hL]
  have hl2 : last = (L : Int) - 1074 := by omega
  have hLN : L ≤ N.log2 + 1022 := by omega
  have k1 : Ieee.Toward.even.cut s (m <<< (i - last).toNat) (last - i).toNat ≤ N * 2 ^ (1074 - L) := by
    refine cut_even_le s ?_
    rw [Nat.shiftLeft_eq]
    by_cases hc : last ≤ i
    · rw [show (last - i).toNat = 0 by omega, Nat.pow_zero, Nat.mul_one]
      by_cases h0 : 0 ≤ i
      · rw [show (-i).toNat = 0 by omega, Nat.pow_zero, Nat.mul_one] at h
        rw [show (i - last).toNat = i.toNat + (1074 - L) by omega, Nat.pow_add, ← Nat.mul_assoc]
        exact Nat.mul_le_mul_right _ h
      · rw [show i.toNat = 0 by omega, Nat.pow_zero, Nat.mul_one] at h
        rw [show 1074 - L = (-i).toNat + (i - last).toNat by omega, Nat.pow_add, ← Nat.mul_assoc]
        exact Nat.mul_le_mul_right _ h
    · rw [show (i - last).toNat = 0 by omega, Nat.pow_zero, Nat.mul_one]
      rw [show i.toNat = 0 by omega, Nat.pow_zero, Nat.mul_one] at h
      rw [Nat.mul_assoc, ← Nat.pow_add, show 1074 - L + (last - i).toNat = (-i).toNat by omega]
      exact h
  have k2 : Ieee.Toward.even.cut s (m <<< (i - last).toNat) (last - i).toNat ≤ 2 ^ 53 := by
    refine cut_even_le s ?_
    rw [Nat.shiftLeft_eq, ← Nat.pow_add]
    refine Nat.le_trans (Nat.mul_le_mul_right _ (Nat.le_of_lt hhi)) ?_
    rw [← Nat.pow_add]
    exact Nat.pow_le_pow_right (by decide) (by omega)
  generalize Ieee.Toward.even.cut s (m <<< (i - last).toNat) (last - i).toNat = kept at k1 k2 ⊢
  refine ⟨_, ?_, rfl⟩
  refine Nat.le_trans (Nat.min_le_left _ _) ?_
  rw [fiN_val N hN0 hN]
  have e52 : (4503599627370496 : Nat) = 2 ^ 52 := by decide
  by_cases hc : L = N.log2 + 1022
  · rw [hc] at k1 ⊢
    rw [show 1074 - (N.log2 + 1022) = 52 - N.log2 by omega] at k1
    exact Nat.add_le_add_left k1 _
  · have h5 : 4503599627370496 ≤ N * 2 ^ (52 - N.log2) := by
      rw [e52]
      calc 2 ^ 52 = 2 ^ N.log2 * 2 ^ (52 - N.log2) := by rw [← Nat.pow_add, show N.log2 + (52 - N.log2) = 52 by omega]
        _ ≤ _ := Nat.mul_le_mul_right _ hNl
    have h6 : (L + 1) * 4503599627370496 ≤ (N.log2 + 1022) * 4503599627370496 := Nat.mul_le_mul_right _ (by omega)
    have h7 : (2 : Nat) ^ 53 = 4503599627370496 + 4503599627370496 := by decide
    rw [h7] at k2
    rw [Nat.succ_mul] at h6
    refine Nat.le_trans (Nat.add_le_add_left k2 _) ?_
    rw [← Nat.add_assoc]
    exact Nat.add_le_add h6 h5
/-- A share (from 0 to 1) of so many (below 64). -/
theorem mul_share {p N : Nat} (hp : Wd p) (hN : N < 64) (h0 : 0 ≤ fv p) (h1 : fv p ≤ (uN : Nat)) : ∃ a, mulF p (fiN N) = some a ∧ Wd a ∧ 0 ≤ fv a ∧ fv a ≤ (N * uN : Nat) := by
  have hu := uN_pos
  have hbu : uN < big := by
    rw [big_eq, uN_eq]
    exact Nat.pow_lt_pow_right (by decide) (by rw [bigE_eq, uE_eq]; decide)
  obtain ⟨eN, lN⟩ := fiN_all N (by omega)
  rcases inf_of hp.nn with ⟨s, e⟩ | ⟨s, m, i, e, hi⟩
  · rw [fv_inf e] at h0 h1
    cases s
    · simp only [Bool.false_eq_true, if_false] at h1; omega
    · simp only [if_true] at h0; omega
  have eb : fv (fiN N) < big := by
    rw [eN, big_eq]
    have g1 : N * uN ≤ 2 ^ 7 * 2 ^ uE := by rw [← uN_eq]; exact Nat.mul_le_mul (by omega) (Nat.le_refl _)
    have g2 : 2 ^ 7 * 2 ^ uE < 2 ^ bigE := by rw [← Nat.pow_add]; exact Nat.pow_lt_pow_right (by decide) (by rw [bigE_eq, uE_eq]; decide)
    exact_mod_cast Nat.lt_of_le_of_lt g1 g2
  obtain ⟨n, j, e', hj⟩ : ∃ n j, Ieee.double.read (fiN N) = .number false n j ∧ -1074 ≤ j := by
    rcases inf_of (nan_pos lN) with ⟨t, e'⟩ | ⟨t, n, j, e', hj⟩
    · rw [fv_inf e'] at eb
      have := bigI
      cases t
      · simp only [Bool.false_eq_true, if_false] at eb
        exact absurd eb (Int.lt_irrefl _)
      · rw [fv_inf e'] at eN
        simp only [if_true] at eN
        have h9 := Int.natCast_nonneg (N * uN)
        generalize big = B at *
        omega
    · have hneg := fneg_read (Nat.lt_of_le_of_lt lN (by decide) : fiN N < 18446744073709551616)
      rw [e'] at hneg
      have : fneg (fiN N) = false := by
        unfold fneg
        rw [decide_eq_false_iff_not]
        omega
      rw [this] at hneg
      obtain rfl : t = false := hneg
      exact ⟨n, j, e', hj⟩
  have hv := fv_num e
  have hw := fv_num e'
  rw [eN, if_neg (by decide)] at hw
  have hw' : N * uN = n <<< (j + 1074).toNat := Int.ofNat.inj hw
  rw [mulF_eq, e, e']
  show ∃ a, some (Ieee.double.nearest (s ^^ false) (m * n) (i + j)) = some a ∧ _
  have hms : s = true → m = 0 := fun hs => by
    rw [hs, if_pos rfl] at hv
    have h9 : m <<< (i + 1074).toNat = 0 := by
      generalize m <<< (i + 1074).toNat = V at hv ⊢
      omega
    rw [Nat.shiftLeft_eq] at h9
    rcases Nat.mul_eq_zero.1 h9 with h | h
    · exact h
    · have := Nat.two_pow_pos (i + 1074).toNat
      omega
  have hle : m * 2 ^ (i + 1074).toNat ≤ uN := by
    rw [← Nat.shiftLeft_eq]
    cases s
    · rw [if_neg (by decide)] at hv
      generalize m <<< (i + 1074).toNat = V at hv ⊢
      omega
    · rw [hms rfl, Nat.zero_shiftLeft]
      exact Nat.zero_le _
  have hval : (m * n) * 2 ^ (i + j).toNat ≤ N * 2 ^ (-(i + j)).toNat := by
    rw [Nat.shiftLeft_eq] at hw'
    have hE := uE_eq
    have a1 : (m * 2 ^ (i + 1074).toNat) * (n * 2 ^ (j + 1074).toNat) ≤ uN * (N * uN) := by
      rw [← hw']
      exact Nat.mul_le_mul_right _ hle
    have a2 : (m * 2 ^ (i + 1074).toNat) * (n * 2 ^ (j + 1074).toNat) = (m * n) * 2 ^ ((i + 1074).toNat + (j + 1074).toNat) := by
      rw [Nat.pow_add, Nat.mul_assoc, Nat.mul_assoc, Nat.mul_left_comm (2 ^ (i + 1074).toNat)]
    have a3 : uN * (N * uN) = N * 2 ^ (uE + uE) := by
      rw [Nat.pow_add, ← uN_eq, Nat.mul_left_comm]
    rw [a2, a3] at a1
    by_cases hc : 0 ≤ i + j
    · rw [show (-(i + j)).toNat = 0 by omega, Nat.pow_zero, Nat.mul_one]
      rw [show (i + 1074).toNat + (j + 1074).toNat = (i + j).toNat + (uE + uE) by omega, Nat.pow_add, ← Nat.mul_assoc] at a1
      exact Nat.le_of_mul_le_mul_right a1 (Nat.two_pow_pos _)
    · rw [show (i + j).toNat = 0 by omega, Nat.pow_zero, Nat.mul_one]
      rw [show uE + uE = (-(i + j)).toNat + ((i + 1074).toNat + (j + 1074).toNat) by omega, Nat.pow_add 2 (-(i + j)).toNat, ← Nat.mul_assoc N] at a1
      exact Nat.le_of_mul_le_mul_right a1 (Nat.two_pow_pos _)
  obtain ⟨r, hr, er⟩ := near_le (s ^^ false) hN hval
  have hr2 : r ≤ 9218868437227405312 := Nat.le_trans hr lN
  refine ⟨_, rfl, ?_, ?_⟩
  · rw [er]
    exact wd_word _ hr2
  cases s
  · rw [er, word_eq]
    simp only [Bool.false_xor, Bool.false_eq_true, if_false]
    rw [fv_pos hr2]
    rw [fv_pos lN] at eN
    have := fvR_le lN hr
    omega
  · rw [hms rfl, Nat.zero_mul]
    have e0 : Ieee.double.nearest (true ^^ false) 0 (i + j) = 9223372036854775808 := by
      unfold Ieee.Format.nearest
      rw [if_pos rfl, word_eq]
      rfl
    rw [e0]
    have h8 : fv 9223372036854775808 = 0 := by
      have := fv_neg (r := 0) (by decide)
      rw [show 9223372036854775808 + 0 = 9223372036854775808 from rfl, show fvR 0 = 0 by decide] at this
      exact this
    rw [h8]
    exact ⟨Int.le_refl _, Int.natCast_nonneg _⟩
end Go.Proofs.Ytidphdlhghgglaa
