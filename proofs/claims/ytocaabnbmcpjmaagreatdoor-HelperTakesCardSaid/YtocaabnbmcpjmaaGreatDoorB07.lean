/- Several texts of one claim, one behind the other (Rq2, Rq3). -/
import Derived.Test.YtocaabnbmcpjmaaGreatDoorB06
import Derived.Test.YtocaabnbmcpjmaaGreatDoorB05
import Derived.Test.YtocaabnbmcpjmaaGreatDoorB04
set_option linter.unusedVariables false
set_option linter.unusedSimpArgs false
/- Reports that there were: how they lie in memory, in which order they stand; a search for one. -/
namespace Go.Proofs.YtocaabnbmcpjmaaGreatDoor
open Go.RowKit
attribute [local irreducible] Go.Calls Go.Exit.then Go.Exit.inBlock Go.bodyPost Go.Code.wp Go.wpList

/-! The order. -/
theorem cmpI_self : ∀ (a : List Int), cmpI a a = 0
  | [] => rfl
  | x :: a => by simp [cmpI, cmpI_self a]
theorem cmpI_swap : ∀ (a b : List Int), cmpI b a = -cmpI a b
  | [], [] => rfl
  | [], _ :: _ => rfl
  | _ :: _, [] => rfl
  | x :: a, y :: b => by
    have ih := cmpI_swap a b
    simp only [cmpI]
    split <;> split <;> (try omega)
theorem cmpI_eq : ∀ {a b : List Int}, a.length = b.length → cmpI a b = 0 → a = b
  | [], [], _, _ => rfl
  | [], _ :: _, h, _ => by simp at h
  | _ :: _, [], h, _ => by simp at h
  | x :: a, y :: b, h, hc => by
    simp only [cmpI] at hc
    split at hc
    · omega
    · split at hc
      · omega
      · rw [cmpI_eq (by simpa using h) hc, show x = y from by omega]
theorem cmpI_trans : ∀ {a b c : List Int}, cmpI a b < 0 → cmpI b c < 0 → cmpI a c < 0
  | [], [], _, h, _ => by simp [cmpI] at h
  | [], _ :: _, [], _, h => by simp [cmpI] at h
  | [], _ :: _, _ :: _, _, _ => by simp [cmpI]
  | _ :: _, [], _, h, _ => by simp [cmpI] at h
  | x :: a, y :: b, [], _, h => by simp [cmpI] at h
  | x :: a, y :: b, z :: c, h, h' => by
    have ih := @cmpI_trans a b c
    simp only [cmpI] at h h' ⊢
    split at h <;> split at h' <;> (try split at h) <;> (try split at h') <;> (try omega)
    all_goals first
      | (rw [if_pos (by omega)]; omega)
      | (rw [if_neg (by omega), if_neg (by omega)]; exact ih h h')
theorem Id.eq_iff (a b : Id) : cmpI a.l b.l = 0 ↔ a = b := by
  constructor
  · intro h
    exact Id.ext_ (cmpI_eq (by rw [a.len, b.len]) h)
  · rintro rfl
    exact cmpI_self _

abbrev ltS (a b : Seen) : Prop := cmpI a.id.l b.id.l < 0
def Srt (ss : List Seen) : Prop := ss.Pairwise ltS
/-- How many stand ahead of an id. -/
def posI (ss : List Seen) (id : Id) : Nat := (ss.takeWhile fun s => decide (cmpI s.id.l id.l < 0)).length
def hasI (ss : List Seen) (id : Id) : Bool := ss.any fun s => decide (cmpI s.id.l id.l = 0)
theorem posI_eq : ∀ {ss : List Seen} {id : Id} {i : Nat}, i ≤ ss.length → (∀ k s, k < i → ss[k]? = some s → cmpI s.id.l id.l < 0) → (∀ k s, i ≤ k → ss[k]? = some s → 0 ≤ cmpI s.id.l id.l) → posI ss id = i
  | [], id, i, hi, _, _ => by simp at hi; subst hi; rfl
  | s :: r, id, 0, _, _, h2 => by
    have := h2 0 s (Nat.le_refl _) rfl
    unfold posI
    rw [List.takeWhile_cons_of_neg (by simp; omega)]
    rfl
  | s :: r, id, i + 1, hi, h1, h2 => by
    have h0 := h1 0 s (by omega) rfl
    have ih := posI_eq (ss := r) (id := id) (i := i) (by simpa using hi) (fun k s hk hs => h1 (k + 1) s (by omega) hs) (fun k s hk hs => h2 (k + 1) s (by omega) hs)
    unfold posI at ih ⊢
    rw [List.takeWhile_cons_of_pos (by simpa using h0), List.length_cons, ih]
theorem Srt.lt {ss : List Seen} (h : Srt ss) {i j : Nat} {a b : Seen} (hij : i < j) (ha : ss[i]? = some a) (hb : ss[j]? = some b) : cmpI a.id.l b.id.l < 0 := by
  obtain ⟨h1, rfl⟩ := List.getElem?_eq_some_iff.1 ha
  obtain ⟨h2, rfl⟩ := List.getElem?_eq_some_iff.1 hb
  exact List.pairwise_iff_getElem.1 h i j h1 h2 hij
theorem hasI_at {ss : List Seen} (h : Srt ss) {id : Id} {i : Nat} (h1 : ∀ k s, k < i → ss[k]? = some s → cmpI s.id.l id.l < 0) (h2 : ∀ k s, i ≤ k → ss[k]? = some s → 0 ≤ cmpI s.id.l id.l) :
    hasI ss id = match ss[i]? with | some s => decide (cmpI s.id.l id.l = 0) | none => false := by
  cases hs : ss[i]? with
  | none =>
    unfold hasI
    rw [List.any_eq_false]
    intro s hm
    obtain ⟨k, hk⟩ := List.getElem?_of_mem hm
    have : k < i := by
      have h3 := (List.getElem?_eq_some_iff.1 hk).1
      have h4 := List.getElem?_eq_none_iff.1 hs
      omega
    have := h1 k s this hk
    simp
    omega
  | some s =>
    by_cases he : cmpI s.id.l id.l = 0
    · simp only [he, decide_true]
      unfold hasI
      rw [List.any_eq_true]
      exact ⟨s, List.mem_of_getElem? hs, by simpa using he⟩
    · simp only [he, decide_false]
      unfold hasI
      rw [List.any_eq_false]
      intro u hm
      obtain ⟨k, hk⟩ := List.getElem?_of_mem hm
      rcases Nat.lt_trichotomy k i with hki | hki | hki
      · have := h1 k u hki hk
        simp
        omega
      · subst hki
        rw [hs] at hk
        injection hk with hk
        subst hk
        simpa using he
      · have h3 := h.lt hki hs hk
        have h4 := h2 i s (Nat.le_refl _) hs
        have h5 : cmpI id.l u.id.l < 0 := by
          have h6 : cmpI id.l s.id.l < 0 := by
            have := cmpI_swap s.id.l id.l
            omega
          exact cmpI_trans h6 h3
        have := cmpI_swap u.id.l id.l
        simp
        omega

theorem nth_Rq2 {φ : Prop} (h : φ := by (first | rfl | first | exact Seen.nt _ | exact Seen.nc _)) : φ := h
theorem mid_Rq2 {φ : Prop} (h : φ := by (first | first | exact Seen.mid _ | exact Mid.all | exact Mid.head)) : φ := h
theorem sz_Rq2 {φ : Prop} (h : φ := by (first | rfl | (simp only [Seen.len, bytes_length, Id.len]; rfl; first | done | fail))) : φ := h
theorem one_Rq2 {φ : Prop} (h : φ := by (first | assumption | exact one_bytes _ | (simp only [List.mem_cons, List.not_mem_nil, or_false, forall_eq_or_imp, forall_eq]; decide) | exact one_bytes _ | (intro v hv; (repeat (rcases List.mem_cons.1 hv with rfl | hv; rfl)); cases hv))) : φ := h
theorem set_Rq2 {φ : Prop} (h : φ := by (first | (fail) | ((repeat (first | exact SetAt.here | apply SetAt.there)); first | done | fail))) : φ := h
theorem cl_Rq2 {φ : Prop} (h : φ := by first | rfl | exact .t | exact .f | exact .t (by omega) | exact .f (by omega) | exact .u | exact .i (by (first | exact .t (by omega) | exact .f (by omega) | exact .u | exact .i (by omega) | exact .v (by omega) | exact .b (by omega) | exact .w | rfl | omega)) | exact .v (by omega) | exact .b (by omega) | exact .q (by omega) | exact .w | exact .b (by exact at_) rfl (by exact nth_Rq2) | exact .w (by exact at_) rfl rfl (by exact sz_Rq2) | exact .s (by exact at_) (by exact mid_Rq2) rfl rfl (by exact sz_Rq2) | exact .z rfl rfl ⟨by kernel_rfl⟩ | exact .b rfl rfl ⟨by kernel_rfl⟩ | exact .a rfl rfl ⟨by kernel_rfl⟩ | exact .o rfl | exact .s | exact .n | exact .p rfl | exact .q rfl | exact .c rfl | exact .d rfl | exact .n rfl rfl (by omega) | exact .a rfl rfl (by omega) | exact .p rfl rfl (by omega) (by omega) | exact .y rfl rfl (by omega) (by omega) | exact .o (by exact at_) (by omega) rfl (by exact nth_Rq2) | exact .m (by exact at_) (by omega) (by exact mid_Rq2) rfl rfl (by exact sz_Rq2) | exact .mlen (by exact at_) rfl | exact .t (by exact at_) rfl rfl (by first | exact True.intro | rfl) (by assumption) | exact .f (by exact at_) rfl rfl (by first | exact True.intro | rfl) (by assumption) rfl | exact .t1 (by exact at_) rfl rfl (by first | exact True.intro | rfl) (by assumption) | exact .f1 (by exact at_) rfl rfl (by first | exact True.intro | rfl) (by assumption) rfl | exact .tk (by exact at_) rfl (by assumption) (by assumption) | exact .fk (by exact at_) rfl (by assumption) (by assumption) rfl | exact .tk1 (by exact at_) rfl (by assumption) (by assumption) | exact .fk1 (by exact at_) rfl (by assumption) (by assumption) rfl | exact .r rfl rfl (by omega) (by omega) (by exact nth_Rq2) rfl | exact .s rfl (by omega) (by assumption) | exact at_ | assumption | exact .r rfl rfl | exact .h rfl rfl rfl (by omega) | exact .l rfl rfl rfl (by omega) (by omega) | exact .g rfl rfl rfl rfl (by omega) (by omega) | exact .h rfl rfl (toN_ (by omega)) (by omega) | exact .l rfl rfl (toN_ (by omega)) (by omega) (by omega) | exact .g rfl rfl (toN_ (by omega)) (toN_ (by omega)) (by omega) (by omega) | exact .o (by decide) | exact .f (by decide) | exact .n (by omega) (by first | decide | (show _ ≤ ((64 : Nat) : Int); omega)) | (constructor; (repeat (first | exact .t (by omega) | exact .f (by omega) | exact .u | exact .i (by omega) | exact .v (by omega) | exact .b (by omega) | exact .w | rfl | omega)); first | done | fail) | omega | (show _ ≤ ((64 : Nat) : Int); omega)) : φ := h
theorem pv_Rq2 {φ : Prop} (h : φ := by constructor; (repeat exact cl_Rq2); first | done | fail) : φ := h
theorem su_Rq2 {φ ψ : Prop} (k : ψ) (h : Hide ψ → φ := by (intro k; (first | refine sl_pu (PuI.sep (by exact pv_Rq2)) rfl ?_ | refine sl_yes rfl rfl ?_ | refine sl_no rfl rfl rfl ?_ | refine sl_off rfl rfl rfl ?_ | (fail)); exact k.out)) : φ := h ⟨k⟩
theorem rq_Rq2 {φ ψ : Prop} (k : ψ) (h : Hide ψ → φ := by (intro k; (first | refine wq_pu (PuI.sep (by exact pv_Rq2)) rfl ?_ | refine wq_yes rfl rfl ?_ | refine wq_no rfl rfl rfl ?_ | refine wq_off rfl rfl rfl ?_ | (fail)); exact k.out)) : φ := h ⟨k⟩
theorem sto_Rq2 {φ ψ : Prop} (k : ψ) (h : Hide ψ → φ := by (intro k; (first | refine sl_store rfl (by exact pick_) rfl rfl (by kernel_rfl) (by exact set_Rq2) ?_ | refine sl_store_whole rfl (by exact pick_) rfl (by exact sz_Rq2) (by exact sz_Rq2) (by exact one_Rq2) ?_); exact k.out)) : φ := h ⟨k⟩
theorem go_Rq2 {φ ψ : Prop} (k : ψ) (h : Hide ψ → φ := by (intro k; (repeat (first | refine su_Rq2 ?_ | refine so_ ?_ | refine sto_Rq2 ?_)); exact k.out)) : φ := h ⟨k⟩
set_option maxRecDepth 100000 in
theorem find1_ok {K : List Fa} (s : Seen) (id : Id) :
    Fn Tryz.prog 115 #[s.v, id.v] K (Ret (fun _ : Unit => True) (fun _ => .int .i64 (cmpI s.id.l id.l)) (fun _ => K)) := by
  refine fn_enter Tryz.func115 rfl _ Tryz.ntmps115 (by simp) [(0, s.v), (1, id.v)] (args_of (by simp)) ?_
  refine go_Rq2 ?_
  refine sl_box rfl rfl rfl ?_; intro ga
  refine sl_box rfl rfl rfl ?_; intro gb
  refine go_Rq2 ?_
  refine sl_call rfl rfl (by kernel_rfl) rfl (by exact sub_) (Compare_ok s.id id) ?_; rintro _ -
  refine go_Rq2 ?_
  exact se_ret1 () trivial rfl rfl (by exact sub_)

structure Bs where
  i : Nat
  j : Nat
set_option maxRecDepth 100000 in
set_option maxHeartbeats 2000000 in
theorem search_ok {K : List Fa} {A : Option Addr} {c : Nat} {ss : List Seen} (id : Id) (hr : Vw K (fun w => Reads w 18 A ss.length (rows Seen.cells ss))) (hs : Srt ss) (hn : ss.length ≤ 4611686018427387904) :
    Fn Tryz.prog 114 #[.slice A ss.length c, id.v, .func (.func 115) #[] #[]] K (Ret (fun _ : Unit => True) (fun _ => .tuple #[.int .i64 (posI ss id), .bool (hasI ss id)]) (fun _ => K)) := by
  refine fn_enter Tryz.func114 rfl _ Tryz.ntmps114 (by simp) [(0, .slice A ss.length c), (1, id.v), (2, .func (.func 115) #[] #[])] (args_of (by simp)) ?_
  refine go_Rq2 ?_
  refine sl_box rfl rfl rfl ?_; intro gb
  refine go_Rq2 ?_
  refine sc_for (fun p : Bs => [(0, .slice A ss.length c), (2, .func (.func 115) #[] #[]), (4, .pointer (some ⟨gb, 0, none⟩)), (8, .int .i64 ss.length), (9, .int .i64 p.i), (10, .int .i64 p.j)]) (fun _ => blk gb 56 (bytes id.l) :: K)
    (fun p => p.i ≤ p.j ∧ p.j ≤ ss.length ∧ (∀ k s, k < p.i → ss[k]? = some s → cmpI s.id.l id.l < 0) ∧ (∀ k s, p.j ≤ k → ss[k]? = some s → 0 ≤ cmpI s.id.l id.l)) (fun p => p.j - p.i) ⟨0, ss.length⟩ (by exact has_) (by exact sub_)
    ⟨Nat.zero_le _, Nat.le_refl _, fun k s hk => absurd hk (by simp), fun k s hk h => by have := (List.getElem?_eq_some_iff.1 h).1; simp at hk; omega⟩ ?_
  rintro ⟨i, j⟩ ⟨hij, hj, h1, h2⟩
  dsimp only at hij hj h1 h2 ⊢
  have hrL : Vw (blk gb 56 (bytes id.l) :: K) (fun w => Reads w 18 A ss.length (rows Seen.cells ss)) := hr.mono (by exact sub_)
  by_cases hlt : i < j
  · refine sc_know (vw_form hrL (by omega)) ?_
    rintro ⟨ad, rfl⟩
    refine go_Rq2 ?_
    obtain ⟨h, hh⟩ : ∃ h : Nat, ((i : Int) + j) / 2 = (h : Int) := ⟨((i : Int) + j).toNat / 2, by omega⟩
    rw [hh]
    have hhi : i ≤ h := by omega
    have hhj : h < j := by omega
    obtain ⟨s, hs'⟩ : ∃ s, ss[h]? = some s := ⟨_, List.getElem?_eq_getElem (by omega)⟩
    refine sq_region (by kernel_rfl) (by kernel_rfl) ?_
    repeat refine rq_Rq2 ?_
    refine wq_pu (pu_ldrs hrL (by omega) rfl (rows_mid Seen.len hs') rfl rfl (by exact sz_Rq2)) rfl ?_
    repeat refine rq_Rq2 ?_
    refine WQ_call rfl rfl (by kernel_rfl) rfl (find1_ok s id) ?_
    by_cases hc : cmpI s.id.l id.l < 0
    · repeat refine rq_Rq2 ?_
      refine sq_end ?_
      refine go_Rq2 ?_
      refine se_round ⟨h + 1, j⟩ (by exact has_) (by exact sub_) ⟨hhj, hj, fun k u hk hu => ?_, h2⟩ (by dsimp only; omega)
      by_cases hkh : k = h
      · subst hkh
        rw [hs'] at hu
        injection hu with hu
        subst hu
        exact hc
      · exact cmpI_trans (hs.lt (show k < h from by dsimp only at hk; omega) hu hs') hc
    · repeat refine rq_Rq2 ?_
      refine sq_end ?_
      refine go_Rq2 ?_
      refine se_round ⟨i, h⟩ (by exact has_) (by exact sub_) ⟨hhi, by dsimp only; omega, h1, fun k u hk hu => ?_⟩ (by dsimp only; omega)
      by_cases hkh : k = h
      · subst hkh
        rw [hs'] at hu
        injection hu with hu
        subst hu
        omega
      · have h3 := hs.lt (show h < k from by dsimp only at hk; omega) hs' hu
        by_cases h4 : cmpI u.id.l id.l < 0
        · exact absurd (cmpI_trans h3 h4) hc
        · omega
  · obtain rfl : i = j := by omega
    have hp : posI ss id = i := posI_eq hj h1 h2
    have hh := hasI_at hs h1 h2
    refine go_Rq2 ?_
    by_cases hin : i < ss.length
    · obtain ⟨s, hs'⟩ : ∃ s, ss[i]? = some s := ⟨_, List.getElem?_eq_getElem hin⟩
      refine sc_know (vw_form hrL (by omega)) ?_
      rintro ⟨ad, rfl⟩
      rw [hs'] at hh
      refine sq_region (by kernel_rfl) (by kernel_rfl) ?_
      repeat refine rq_Rq2 ?_
      refine wq_pu (pu_ldrs hrL (by omega) rfl (rows_mid Seen.len hs') rfl rfl (by exact sz_Rq2)) rfl ?_
      repeat refine rq_Rq2 ?_
      refine WQ_call rfl rfl (by kernel_rfl) rfl (find1_ok s id) ?_
      have hh' : hasI ss id = decide (cmpI s.id.l id.l = 0) := hh
      by_cases h0 : cmpI s.id.l id.l = 0
      all_goals
        repeat refine rq_Rq2 ?_
        refine sq_end ?_
        refine go_Rq2 ?_
        refine se_ret2 () trivial rfl rfl rfl (by rw [hp, hh']; simp [h0]) (by exact sub_)
    · rw [List.getElem?_eq_none (by omega)] at hh
      refine sq_region (by kernel_rfl) (by kernel_rfl) ?_
      repeat refine rq_Rq2 ?_
      refine sq_end ?_
      refine go_Rq2 ?_
      refine se_ret2 () trivial rfl rfl rfl (by rw [hp, hh]) (by exact sub_)
end Go.Proofs.YtocaabnbmcpjmaaGreatDoor
/- Finding, a copy, one more at its place. -/
namespace Go.Proofs.YtocaabnbmcpjmaaGreatDoor
open Go.RowKit
attribute [local irreducible] Go.Calls Go.Exit.then Go.Exit.inBlock Go.bodyPost Go.Code.wp Go.wpList

def zSeen : Value := .agg (bytes (List.replicate 16 0) ++ [Value.int .u64 0, Value.int .i64 0]).toArray
theorem Tryz.infoSeen : (Tryz.prog.info? 103).map (fun i => (i.zero, i.size, i.bytes)) = some (some zSeen, 18, 32) := by kernel_rfl

theorem nth_Rq3 {φ : Prop} (h : φ := by (first | rfl | first | exact Seen.nt _ | exact Seen.nc _)) : φ := h
theorem mid_Rq3 {φ : Prop} (h : φ := by (first | first | exact Seen.mid _ | exact Mid.all | exact Mid.head)) : φ := h
theorem sz_Rq3 {φ : Prop} (h : φ := by (first | rfl | (simp only [Seen.len, bytes_length, Id.len]; rfl; first | done | fail))) : φ := h
theorem one_Rq3 {φ : Prop} (h : φ := by (first | assumption | exact one_bytes _ | (simp only [List.mem_cons, List.not_mem_nil, or_false, forall_eq_or_imp, forall_eq]; decide) | exact one_bytes _ | (intro v hv; (repeat (rcases List.mem_cons.1 hv with rfl | hv; rfl)); cases hv))) : φ := h
theorem set_Rq3 {φ : Prop} (h : φ := by (first | (fail) | ((repeat (first | exact SetAt.here | apply SetAt.there)); first | done | fail))) : φ := h
theorem cl_Rq3 {φ : Prop} (h : φ := by first | rfl | exact .t | exact .f | exact .t (by omega) | exact .f (by omega) | exact .u | exact .i (by (first | exact .t (by omega) | exact .f (by omega) | exact .u | exact .i (by omega) | exact .v (by omega) | exact .b (by omega) | exact .w | rfl | omega)) | exact .v (by omega) | exact .b (by omega) | exact .q (by omega) | exact .w | exact .b (by exact at_) rfl (by exact nth_Rq3) | exact .w (by exact at_) rfl rfl (by exact sz_Rq3) | exact .s (by exact at_) (by exact mid_Rq3) rfl rfl (by exact sz_Rq3) | exact .z rfl rfl ⟨by kernel_rfl⟩ | exact .b rfl rfl ⟨by kernel_rfl⟩ | exact .a rfl rfl ⟨by kernel_rfl⟩ | exact .o rfl | exact .s | exact .n | exact .p rfl | exact .q rfl | exact .c rfl | exact .d rfl | exact .n rfl rfl (by omega) | exact .a rfl rfl (by omega) | exact .p rfl rfl (by omega) (by omega) | exact .y rfl rfl (by omega) (by omega) | exact .o (by exact at_) (by omega) rfl (by exact nth_Rq3) | exact .m (by exact at_) (by omega) (by exact mid_Rq3) rfl rfl (by exact sz_Rq3) | exact .mlen (by exact at_) rfl | exact .t (by exact at_) rfl rfl (by first | exact True.intro | rfl) (by assumption) | exact .f (by exact at_) rfl rfl (by first | exact True.intro | rfl) (by assumption) rfl | exact .t1 (by exact at_) rfl rfl (by first | exact True.intro | rfl) (by assumption) | exact .f1 (by exact at_) rfl rfl (by first | exact True.intro | rfl) (by assumption) rfl | exact .tk (by exact at_) rfl (by assumption) (by assumption) | exact .fk (by exact at_) rfl (by assumption) (by assumption) rfl | exact .tk1 (by exact at_) rfl (by assumption) (by assumption) | exact .fk1 (by exact at_) rfl (by assumption) (by assumption) rfl | exact .r rfl rfl (by omega) (by omega) (by exact nth_Rq3) rfl | exact .s rfl (by omega) (by assumption) | exact at_ | assumption | exact .r rfl rfl | exact .h rfl rfl rfl (by omega) | exact .l rfl rfl rfl (by omega) (by omega) | exact .g rfl rfl rfl rfl (by omega) (by omega) | exact .h rfl rfl (toN_ (by omega)) (by omega) | exact .l rfl rfl (toN_ (by omega)) (by omega) (by omega) | exact .g rfl rfl (toN_ (by omega)) (toN_ (by omega)) (by omega) (by omega) | exact .o (by decide) | exact .f (by decide) | exact .n (by omega) (by first | decide | (show _ ≤ ((64 : Nat) : Int); omega)) | (constructor; (repeat (first | exact .t (by omega) | exact .f (by omega) | exact .u | exact .i (by omega) | exact .v (by omega) | exact .b (by omega) | exact .w | rfl | omega)); first | done | fail) | omega | (show _ ≤ ((64 : Nat) : Int); omega)) : φ := h
theorem pv_Rq3 {φ : Prop} (h : φ := by constructor; (repeat exact cl_Rq3); first | done | fail) : φ := h
theorem su_Rq3 {φ ψ : Prop} (k : ψ) (h : Hide ψ → φ := by (intro k; (first | refine sl_pu (PuI.sep (by exact pv_Rq3)) rfl ?_ | refine sl_yes rfl rfl ?_ | refine sl_no rfl rfl rfl ?_ | refine sl_off rfl rfl rfl ?_ | (fail)); exact k.out)) : φ := h ⟨k⟩
theorem rq_Rq3 {φ ψ : Prop} (k : ψ) (h : Hide ψ → φ := by (intro k; (first | refine wq_pu (PuI.sep (by exact pv_Rq3)) rfl ?_ | refine wq_yes rfl rfl ?_ | refine wq_no rfl rfl rfl ?_ | refine wq_off rfl rfl rfl ?_ | (fail)); exact k.out)) : φ := h ⟨k⟩
theorem sto_Rq3 {φ ψ : Prop} (k : ψ) (h : Hide ψ → φ := by (intro k; (first | refine sl_store rfl (by exact pick_) rfl rfl (by kernel_rfl) (by exact set_Rq3) ?_ | refine sl_store_whole rfl (by exact pick_) rfl (by exact sz_Rq3) (by exact sz_Rq3) (by exact one_Rq3) ?_); exact k.out)) : φ := h ⟨k⟩
theorem go_Rq3 {φ ψ : Prop} (k : ψ) (h : Hide ψ → φ := by (intro k; (repeat (first | refine su_Rq3 ?_ | refine so_ ?_ | refine sto_Rq3 ?_)); exact k.out)) : φ := h ⟨k⟩

set_option maxRecDepth 100000 in
theorem find_ok {L : List Fa} {x c : Nat} {A : Option Addr} {ss : List Seen} {lim : Int} (id : Id) (hx : At (blk x 127 [.slice A ss.length c, .int .i64 lim]) L) (hr : Vw L (fun w => Reads w 18 A ss.length (rows Seen.cells ss))) (hs : Srt ss) (hn : ss.length ≤ 4611686018427387904) :
    Fn Tryz.prog 88 #[.pointer (some ⟨x, 0, none⟩), id.v] L (Ret (fun _ : Unit => True) (fun _ => .tuple #[.int .i64 (posI ss id), .bool (hasI ss id)]) (fun _ => L)) := by
  refine fn_enter Tryz.func88 rfl _ Tryz.ntmps88 (by simp) [(0, .pointer (some ⟨x, 0, none⟩)), (1, id.v)] (args_of (by simp)) ?_
  refine go_Rq3 ?_
  refine sl_box rfl rfl rfl ?_; intro ga
  refine go_Rq3 ?_
  refine sq_region (by kernel_rfl) (by kernel_rfl) ?_
  repeat refine rq_Rq3 ?_
  refine WQ_call rfl rfl (by kernel_rfl) rfl (search_ok id (hr.mono (by exact sub_)) hs hn) ?_
  repeat refine rq_Rq3 ?_
  refine sq_end ?_
  refine go_Rq3 ?_
  refine se_ret2 () trivial rfl rfl rfl rfl (by exact sub_)

set_option maxRecDepth 100000 in
theorem rclone_ok {K : List Fa} {A : Option Addr} {n c : Nat} {xs : List Value} (hr : Vw K (fun w => Reads w 18 A n xs)) (h1 : ∀ u ∈ xs, u.oneCell' = true) (hn : n ≤ 1000000000) :
    Fn Tryz.prog 105 #[.slice A n c] K (Ret (fun _ : Option Addr × Nat => True) (fun p => .slice p.1 n p.2) (fun p => own 103 18 p.1 n p.2 xs :: K)) := by
  refine fn_know (φ := A = none → n = 0 ∧ xs = []) (fun w hw hA => ?_) (fun hA => ?_)
  · subst hA
    have h := hr w hw
    rcases Nat.eq_zero_or_pos n with h0 | h0
    · subst h0
      exact ⟨rfl, List.eq_nil_of_length_eq_zero (by simpa using h.1)⟩
    · obtain ⟨_, h2, _⟩ := h.2 h0
      cases h2
  refine fn_enter Tryz.func105 rfl _ Tryz.ntmps105 (by simp) [(0, .slice A n c)] (args_of (by simp)) ?_
  cases A with
  | none =>
    obtain ⟨rfl, rfl⟩ := hA rfl
    refine go_Rq3 ?_
    exact se_ret1 (none, 0) trivial rfl rfl (Sub.own_nil Sub.refl)
  | some ad =>
    refine go_Rq3 ?_
    refine sl_build0 (size := 18) rfl (fun W => by kernel_rfl) rfl ?_
    intro g
    refine go_Rq3 ?_
    refine sl_app rfl (by exact pick_) rfl (hr.mono (by exact sub_)) h1 rfl Tryz.infoSeen (by decide) (by decide) rfl (by unfold maxLen; omega) (by omega) ?_
    intro A' c'
    rw [Nat.zero_add, List.nil_append]
    refine go_Rq3 ?_
    exact se_ret1 (A', c') trivial rfl rfl (by exact sub_)
end Go.Proofs.YtocaabnbmcpjmaaGreatDoor
