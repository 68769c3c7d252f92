/- Several texts of one claim, one behind the other (Sqc, Sqd, Cd, Ce, Lit, Skv). -/
import Derived.Test.YtocaabnbmcpjmaaGreatB24
import Derived.Test.YtocaabnbmcpjmaaGreatB16
import Derived.Test.YtocaabnbmcpjmaaGreatB12
import Derived.Test.YtocaabnbmcpjmaaGreatB05
import Derived.Test.YtocaabnbmcpjmaaGreatB22
set_option linter.unusedVariables false
set_option linter.unusedSimpArgs false
/- StoreHalts, plain: what a record read out of a file begins with; one bit turned. -/
namespace Go.Proofs.YtocaabnbmcpjmaaGreat
open Go.RowKit Go.MapKept
theorem cut_get {bs : List Int} {k i : Nat} (h : i < 64) : (cutL bs k)[i]? = bs[k * 64 + i]? := by
  rw [cut_at, if_pos h]
theorem take_head {bs : List Int} {k f : Nat} {p : List Int} (h : takeL bs k = some (f, p)) {y : Int} (hy : p[0]? = some y) : bs[k * 64 + 16]? = some y := by
  unfold takeL at h
  split at h
  · cases h
  · split at h
    · cases h
    · unfold saysL at h
      split at h
      · cases h
      · split at h
        · cases h
        · split at h
          · simp only [Option.some.injEq, Prod.mk.injEq] at h
            obtain ⟨-, rfl⟩ := h
            rw [← cut_get (k := k) (i := 16) (by decide)]
            rw [List.getElem?_take] at hy
            split at hy
            · rw [List.getElem?_take, if_pos (by decide), List.getElem?_drop, List.getElem?_drop] at hy
              exact hy
            · cases hy
          · cases h
theorem go_head {bs : List Int} {k : Nat} : ∀ {left i : Nat} {out x : List Int}, goL bs k left i out = some x → ∀ {y : Int}, x[0]? = some y → (out = [] ∧ left = 0) ∨ out[0]? = some y
  | 0, i, out, x, h, y, hy => by
    rw [goL] at h
    cases h
    exact .inr hy
  | left + 1, i, out, x, h, y, hy => by
    rw [goL] at h
    split at h
    · split at h
      · rename_i f p _ hc
        rcases go_head h hy with ⟨e, _⟩ | e
        · have := congrArg List.length e
          rw [List.length_append, List.length_nil] at this
          have h2 := hc.2
          omega
        · refine .inr ?_
          rw [List.getElem?_append_left (by have := hc.2; omega)] at e
          exact e
      · cases h
    · cases h
theorem rec_head {bs : List Int} {k m : Nat} {x : List Int} (h : recordL bs k = some (x, m)) {y : Int} (hy : x[0]? = some y) : bs[k * 64 + 16]? = some y := by
  unfold recordL at h
  split at h
  · rename_i f p ht
    split at h
    · cases hg : goL bs k f 0 p with
      | none => rw [hg] at h; cases h
      | some out =>
        rw [hg] at h
        simp only [Option.map_some, Option.some.injEq, Prod.mk.injEq] at h
        obtain ⟨rfl, -⟩ := h
        rcases go_head hg hy with ⟨e, e2⟩ | e
        · subst e e2
          rw [goL] at hg
          cases hg
          cases hy
        · exact take_head ht e
    · cases h
  · cases h
theorem chain_head {bs : List Int} {ψ : Int → Prop} (hψ : ∀ k y, bs[k * 64 + 16]? = some y → ψ y) : ∀ {j k : Nat} {out : List (List Int)}, chainL bs j = some (k, out) → ∀ x ∈ out, ∀ y, x[0]? = some y → ψ y
  | 0, k, out, h => by
    rw [chainL] at h
    cases h
    intro x hx
    cases hx
  | j + 1, k, out, h => by
    rw [chainL] at h
    split at h
    · rename_i k1 out1 h1
      split at h
      · rename_i x m hr
        cases h
        intro z hz y hy
        rcases List.mem_append.1 hz with e | e
        · exact chain_head hψ h1 z e y hy
        · rw [List.mem_singleton] at e
          subst e
          exact hψ _ _ (rec_head hr hy)
      · cases h
    · cases h
theorem tbit_15 {x : Int} (h : x = 1 ∨ x = 5) (k : Nat) : tbit x k ≠ 2 := by
  have hk : k % 8 < 8 := Nat.mod_lt _ (by decide)
  unfold tbit
  generalize k % 8 = m at hk
  rcases h with rfl | rfl
  · rcases (show m = 0 ∨ m = 1 ∨ m = 2 ∨ m = 3 ∨ m = 4 ∨ m = 5 ∨ m = 6 ∨ m = 7 by omega) with rfl | rfl | rfl | rfl | rfl | rfl | rfl | rfl <;> decide
  · rcases (show m = 0 ∨ m = 1 ∨ m = 2 ∨ m = 3 ∨ m = 4 ∨ m = 5 ∨ m = 6 ∨ m = 7 by omega) with rfl | rfl | rfl | rfl | rfl | rfl | rfl | rfl <;> decide
/-- Records of one cell each, each a life's or a report's. -/
def OneC (ls : List (List Int)) : Prop := ∀ x ∈ ls, (1 ≤ x.length ∧ x.length ≤ 48) ∧ IsBytes x ∧ (x[0]? = some 1 ∨ x[0]? = some 5)
theorem many_48 {n : Nat} (h : n ≤ 48) : manyL n = 1 := by
  unfold manyL
  omega
theorem one_cells : ∀ {ls : List (List Int)}, OneC ls → cellsA ls = ls.length
  | [], _ => rfl
  | x :: ls, h => by
    have h1 := one_cells (ls := ls) (fun y hy => h y (List.mem_cons_of_mem _ hy))
    have h2 := (h x (List.mem_cons_self ..)).1.2
    unfold cellsA at h1 ⊢
    rw [List.map_cons, List.sum_cons, h1, many_48 h2, List.length_cons]
    omega
theorem OneC.take {ls : List (List Int)} (h : OneC ls) (n : Nat) : OneC (ls.take n) := fun x hx => h x (List.mem_of_mem_take hx)
theorem all_head {ls : List (List Int)} (h : OneC ls) (hc : ls.length < 16777216) {k : Nat} (hk : k < ls.length) : (allL ls)[k * 64 + 16]? = some 1 ∨ (allL ls)[k * 64 + 16]? = some 5 := by
  have hcl := one_cells h
  have hct := one_cells (h.take k)
  rw [List.length_take, Nat.min_eq_left (by omega)] at hct
  have hx := h ls[k] (List.getElem_mem hk)
  have hm := many_48 hx.1.2
  have ht := take_all (ls := ls) (r := k) (i := 0) hk (by omega) (by omega)
  rw [hct, Nat.add_zero] at ht
  have hp : (partL ls[k] 0)[0]? = (ls[k])[0]? := by
    unfold partL
    rw [List.getElem?_take, if_pos (by decide), List.getElem?_drop]
  rcases hx.2.2 with e | e
  · exact .inl (take_head ht (by rw [hp, e]))
  · exact .inr (take_head ht (by rw [hp, e]))
theorem turn_head {ls : List (List Int)} (h : OneC ls) (hc : ls.length < 16777216) {kk : Nat} : ∀ k y, (turnL (allL ls) kk)[k * 64 + 16]? = some y → y ≠ 2 := by
  intro k y hy
  have hlen : (allL ls).length = ls.length * 64 := by rw [allL_len, one_cells h]
  have hk : k < ls.length := by
    have h1 := (List.getElem?_eq_some_iff.1 hy).1
    rw [turnL_len, hlen] at h1
    omega
  by_cases e : k * 64 + 16 = kk / 8
  · unfold turnL at hy
    rw [e, List.getElem?_set, if_pos rfl, if_pos (by omega)] at hy
    cases hy
    refine tbit_15 ?_ kk
    rw [List.getD_eq_getElem?_getD, ← e]
    rcases all_head h hc hk with e2 | e2
    · rw [e2]; exact .inl rfl
    · rw [e2]; exact .inr rfl
  · rw [turn_getElem e] at hy
    rcases all_head h hc hk with e2 | e2
    · rw [e2] at hy; cases hy; decide
    · rw [e2] at hy; cases hy; decide
end Go.Proofs.YtocaabnbmcpjmaaGreat
/- StoreHalts: Open over a journal a bit of which was turned. -/
namespace Go.Proofs.YtocaabnbmcpjmaaGreat
open Go.RowKit Go.MapKept
theorem rec_pos1 {bs : List Int} {k m : Nat} {x : List Int} (h : recordL bs k = some (x, m)) : 1 ≤ m := by
  unfold recordL at h
  split at h
  · split at h
    · rename_i f p _ _
      cases hg : goL bs k f 0 p with
      | none => rw [hg] at h; cases h
      | some out =>
        rw [hg] at h
        simp only [Option.map_some, Option.some.injEq, Prod.mk.injEq] at h
        omega
    · cases h
  · cases h
theorem chain_len {bs : List Int} : ∀ {j k : Nat} {out : List (List Int)}, chainL bs j = some (k, out) → out.length ≤ k
  | 0, k, out, h => by
    rw [chainL] at h
    cases h
    exact Nat.le_refl _
  | j + 1, k, out, h => by
    rw [chainL] at h
    split at h
    · rename_i k1 out1 h1
      split at h
      · rename_i x m hr
        cases h
        have h2 := chain_len h1
        have h3 := rec_pos1 hr
        rw [List.length_append, List.length_singleton]
        omega
      · cases h
    · cases h
attribute [local irreducible] Go.Calls Go.Exit.then Go.Exit.inBlock Go.bodyPost Go.Code.wp Go.wpList takeL recordL hashL recL allL decR
theorem nth_Sqd {φ : Prop} (h : φ := by (first | rfl | rfl)) : φ := h
theorem mid_Sqd {φ : Prop} (h : φ := by (first | exact Mid.all | exact Mid.all | exact Mid.head)) : φ := h
theorem sz_Sqd {φ : Prop} (h : φ := by (first | rfl | (rfl; first | done | fail))) : φ := h
theorem one_Sqd {φ : Prop} (h : φ := by (first | assumption | exact one_bytes _ | (simp only [List.mem_cons, List.not_mem_nil, or_false, forall_eq_or_imp, forall_eq]; decide) | exact one_bytes _ | (intro v hv; (repeat (rcases List.mem_cons.1 hv with rfl | hv; rfl)); cases hv))) : φ := h
theorem set_Sqd {φ : Prop} (h : φ := by (first | (fail) | ((repeat (first | exact SetAt.here | apply SetAt.there)); first | done | fail))) : φ := h
theorem cl_Sqd {φ : Prop} (h : φ := by first | rfl | exact .t | exact .f | exact .t (by omega) | exact .f (by omega) | exact .u | exact .i (by (first | exact .t (by omega) | exact .f (by omega) | exact .u | exact .i (by omega) | exact .v (by omega) | exact .b (by omega) | exact .w | rfl | omega)) | exact .v (by omega) | exact .b (by omega) | exact .q (by omega) | exact .w | exact .b (by exact at_) rfl (by exact nth_Sqd) | exact .w (by exact at_) rfl rfl (by exact sz_Sqd) | exact .s (by exact at_) (by exact mid_Sqd) rfl rfl (by exact sz_Sqd) | exact .z rfl rfl ⟨by kernel_rfl⟩ | exact .b rfl rfl ⟨by kernel_rfl⟩ | exact .a rfl rfl ⟨by kernel_rfl⟩ | exact .o rfl | exact .s | exact .n | exact .p rfl | exact .q rfl | exact .c rfl | exact .d rfl | exact .n rfl rfl (by omega) | exact .a rfl rfl (by omega) | exact .p rfl rfl (by omega) (by omega) | exact .y rfl rfl (by omega) (by omega) | exact .o (by exact at_) (by omega) rfl (by exact nth_Sqd) | exact .m (by exact at_) (by omega) (by exact mid_Sqd) rfl rfl (by exact sz_Sqd) | exact .mlen (by exact at_) rfl | exact .t (by exact at_) rfl rfl (by first | exact True.intro | rfl) (by assumption) | exact .f (by exact at_) rfl rfl (by first | exact True.intro | rfl) (by assumption) rfl | exact .t1 (by exact at_) rfl rfl (by first | exact True.intro | rfl) (by assumption) | exact .f1 (by exact at_) rfl rfl (by first | exact True.intro | rfl) (by assumption) rfl | exact .tk (by exact at_) rfl (by assumption) (by assumption) | exact .fk (by exact at_) rfl (by assumption) (by assumption) rfl | exact .tk1 (by exact at_) rfl (by assumption) (by assumption) | exact .fk1 (by exact at_) rfl (by assumption) (by assumption) rfl | exact .r rfl rfl (by omega) (by omega) (by exact nth_Sqd) rfl | exact .s rfl (by omega) (by assumption) | exact at_ | assumption | exact .r rfl rfl | exact .h rfl rfl rfl (by omega) | exact .l rfl rfl rfl (by omega) (by omega) | exact .g rfl rfl rfl rfl (by omega) (by omega) | exact .h rfl rfl (toN_ (by omega)) (by omega) | exact .l rfl rfl (toN_ (by omega)) (by omega) (by omega) | exact .g rfl rfl (toN_ (by omega)) (toN_ (by omega)) (by omega) (by omega) | exact .o (by decide) | exact .f (by decide) | exact .n (by omega) (by first | decide | (show _ ≤ ((64 : Nat) : Int); omega)) | (constructor; (repeat (first | exact .t (by omega) | exact .f (by omega) | exact .u | exact .i (by omega) | exact .v (by omega) | exact .b (by omega) | exact .w | rfl | omega)); first | done | fail) | omega | (show _ ≤ ((64 : Nat) : Int); omega)) : φ := h
theorem pv_Sqd {φ : Prop} (h : φ := by constructor; (repeat exact cl_Sqd); first | done | fail) : φ := h
theorem su_Sqd {φ ψ : Prop} (k : ψ) (h : Hide ψ → φ := by (intro k; (first | refine sl_pu (PuI.sep (by exact pv_Sqd)) rfl ?_ | refine sl_yes rfl rfl ?_ | refine sl_no rfl rfl rfl ?_ | refine sl_off rfl rfl rfl ?_ | (fail)); exact k.out)) : φ := h ⟨k⟩
theorem sto_Sqd {φ ψ : Prop} (k : ψ) (h : Hide ψ → φ := by (intro k; (first | refine sl_store rfl (by exact pick_) rfl rfl (by kernel_rfl) (by exact set_Sqd) ?_ | refine sl_store_whole rfl (by exact pick_) rfl (by exact sz_Sqd) (by exact sz_Sqd) (by exact one_Sqd) ?_); exact k.out)) : φ := h ⟨k⟩
theorem go_Sqd {φ ψ : Prop} (k : ψ) (h : Hide ψ → φ := by (intro k; (repeat (first | refine su_Sqd ?_ | refine so_ ?_ | refine sto_Sqd ?_)); exact k.out)) : φ := h ⟨k⟩
set_option maxRecDepth 100000 in
set_option maxHeartbeats 2000000 in
theorem open_nojo {K : List Fa} {gd md ckd : Nat} {f : DF} {t : Ta} {r : Rl} {limit : Int} (h : rErr r t = 0) (hjo : ∀ E : List Fa, Fn Tryz.prog 42 #[.pointer (some ⟨gd, 0, none⟩), .string sj] (dB gd md 1048576 :: dM md [f] ckd :: dS [f] :: E) (Ret (fun _ : Unit => True) (fun _ => .tuple #[.pointer none, .slice none 0 0, .int .i64 23]) (fun _ => dB gd md 1048576 :: dM md [f] ckd :: dS [f] :: E))) :
    Fn Tryz.prog 9 #[.pointer (some ⟨gd, 0, none⟩), .agg t.c.toArray, .agg r.c.toArray, .int .i64 limit] (dB gd md 1048576 :: dM md [f] ckd :: dS [f] :: K) (Ret (fun _ : Unit => True) (fun _ => .tuple #[.pointer none, .int .i64 23]) (fun _ => K)) := by
  refine fn_enter Tryz.func9 rfl _ Tryz.ntmps9 (by simp) [(0, .pointer (some ⟨gd, 0, none⟩)), (1, .agg t.c.toArray), (2, .agg r.c.toArray), (3, .int .i64 limit)] (args_of (by simp)) ?_
  refine go_Sqd ?_
  refine sl_box rfl rfl rfl ?_; intro g5
  refine go_Sqd ?_
  refine sl_box rfl rfl rfl ?_; intro g6
  refine go_Sqd ?_
  refine sl_call rfl rfl (by kernel_rfl) rfl Sub.refl (bnew_ok h) ?_
  rintro ⟨gb, mb⟩ -
  dsimp only
  refine go_Sqd ?_
  refine sl_call rfl rfl (by kernel_rfl) rfl (by exact sub_) (hjo (bB gb t r mb :: bM mb [] 0 :: bS [] :: blk g6 38 r.c :: blk g5 34 t.c :: K)) ?_
  rintro _ -
  refine go_Sqd ?_
  exact se_ret2 () trivial rfl rfl rfl rfl (by exact sub_)
theorem open_turned {K0 : List Fa} {gd md ckd kk : Nat} {f : DF} {ls : List (List Int)} {t : Ta} {r : Rl} {limit : Int} (hr : rErr r t = 0) (hw : 0 ≤ r.w) (h1 : OneC ls) (hc : ls.length ≤ 100) (hs : f.s = sj) (hl : f.l = turnL (allL ls) kk) (hsy : f.sy ≤ f.l.length) (hb : IsBytes (allL ls)) :
    Fn Tryz.prog 9 #[.pointer (some ⟨gd, 0, none⟩), .agg t.c.toArray, .agg r.c.toArray, .int .i64 limit] (dB gd md 1048576 :: dM md [f] ckd :: dS [f] :: K0) (Ret (fun _ : Option Nat => True) hoV (fun _ => K0)) := by
  have hlen : f.l.length = ls.length * 64 := by rw [hl, turnL_len, allL_len, one_cells h1]
  have hfb : IsBytes f.l := by rw [hl]; exact turn_bytes hb
  obtain ⟨j, k, out, hch, hrec, hk⟩ := chain_ex hfb (f.l.length / 64 - 0) (j := 0) (k := 0) (out := []) rfl (by omega) (Nat.le_refl _)
  have hol := chain_len hch
  have hhd : ∀ x ∈ out, ∀ y, x[0]? = some y → y ≠ 2 := chain_head (ψ := fun y => y ≠ 2) (by rw [hl]; exact turn_head h1 (by omega)) hch
  cases hh : haltB f.l k (cutN f.l - k) with
  | true =>
    refine (open_nojo hr fun E => ?_).say fun _ w _ hw => ⟨none, trivial, rfl, hw⟩
    have := open_halt (K := E) (g := gd) (m := md) (ck := ckd) (lim := 1048576) (f := f) (by omega) hfb hch hrec hh
    rwa [hs] at this
  | false =>
    refine open_any2 (k0 := k) (out := out) hr hw (by omega) (by omega) hhd fun E => ?_
    have h0 := open_go (K := E) (g := gd) (m := md) (ck := ckd) (lim := 1048576) (f := f) (by omega) hfb hsy hk hch hrec hh
    rw [hs] at h0
    refine h0.say fun p w hp hw => ⟨p, ⟨hp.1, hp.2.1, ?_, ?_⟩, rfl, ?_⟩
    · rw [hp.2.2.1, hp.2.2.2, List.length_take]
      split <;> omega
    · rw [hp.2.2.1, List.length_take]
      omega
    · have h6 : Sep w (p.q.row :: p.q.st :: jC p.gj gd sj k :: dB gd md 1048576 :: dM md [p.f] ckd :: dS [p.f] :: E) := hw.sub (by exact sub_)
      have h7 := star_in (G := [p.q.row, p.q.st]) w h6
      exact h7.sub (by exact sub_)
end Go.Proofs.YtocaabnbmcpjmaaGreat
/- The small tasks. (Written by wip/tools/mkcd.py.) -/
namespace Go.Proofs.YtocaabnbmcpjmaaGreat
open Go.RowKit
attribute [local irreducible] Go.Calls Go.Exit.then Go.Exit.inBlock Go.bodyPost Go.Code.wp Go.wpList
def sBt (kd b : Int) : Int := if kd = 2 ∨ kd = 3 then 1 + b % 4 else 0
def sLn (kd l : Int) : Int := if kd = 3 then 1 + (1 + l % 5) % 3 else if kd = 4 ∨ kd = 5 then 1 + l % 5 else 0
def sWt (kd l w : Int) : Int := if kd = 5 then 1 + w % (1 + l % 5) else 0
def sCh (kd c : Int) : Int := if kd = 3 ∨ kd = 4 ∨ kd = 5 then 1 + c % 4 else 0
def sCells (k f b l w c : Int) : List Value := [.int .u8 k, .int .u8 f, .int .u8 b, .int .u8 l, .int .u8 w, .int .u8 c]
def sC (k f b l w c : Int) : List Value := cCells (1 + k % 5) (1 + f % 2) (sBt (1 + k % 5) b) (sLn (1 + k % 5) l) (sWt (1 + k % 5) l w) (sCh (1 + k % 5) c)
theorem cc_one (a b c d e f : Int) : ∀ v ∈ [Value.int .u8 a, .int .u8 b, .int .i64 c, .int .i64 d, .int .i64 e, .int .i64 f], v.oneCell' = true := by
  intro v hv
  simp only [List.mem_cons, List.not_mem_nil, or_false] at hv
  rcases hv with rfl | rfl | rfl | rfl | rfl | rfl <;> rfl
theorem nth_Cd {φ : Prop} (h : φ := by (first | rfl | rfl)) : φ := h
theorem mid_Cd {φ : Prop} (h : φ := by (first | exact Mid.all | exact Mid.all | exact Mid.head)) : φ := h
theorem sz_Cd {φ : Prop} (h : φ := by (first | rfl | (rfl; first | done | fail))) : φ := h
theorem one_Cd {φ : Prop} (h : φ := by (first | assumption | exact cc_one _ _ _ _ _ _ | (simp only [List.mem_cons, List.not_mem_nil, or_false, forall_eq_or_imp, forall_eq]; decide) | exact one_bytes _ | (intro v hv; (repeat (rcases List.mem_cons.1 hv with rfl | hv; rfl)); cases hv))) : φ := h
theorem set_Cd {φ : Prop} (h : φ := by (first | (fail) | ((repeat (first | exact SetAt.here | apply SetAt.there)); first | done | fail))) : φ := h
theorem cl_Cd {φ : Prop} (h : φ := by first | rfl | exact .t | exact .f | exact .t (by omega) | exact .f (by omega) | exact .u | exact .i (by (first | exact .t (by omega) | exact .f (by omega) | exact .u | exact .i (by omega) | exact .v (by omega) | exact .b (by omega) | exact .w | rfl | omega)) | exact .v (by omega) | exact .b (by omega) | exact .q (by omega) | exact .w | exact .b (by exact at_) rfl (by exact nth_Cd) | exact .w (by exact at_) rfl rfl (by exact sz_Cd) | exact .s (by exact at_) (by exact mid_Cd) rfl rfl (by exact sz_Cd) | exact .z rfl rfl ⟨by kernel_rfl⟩ | exact .b rfl rfl ⟨by kernel_rfl⟩ | exact .a rfl rfl ⟨by kernel_rfl⟩ | exact .o rfl | exact .s | exact .n | exact .p rfl | exact .q rfl | exact .c rfl | exact .d rfl | exact .n rfl rfl (by omega) | exact .a rfl rfl (by omega) | exact .p rfl rfl (by omega) (by omega) | exact .y rfl rfl (by omega) (by omega) | exact .o (by exact at_) (by omega) rfl (by exact nth_Cd) | exact .m (by exact at_) (by omega) (by exact mid_Cd) rfl rfl (by exact sz_Cd) | exact .mlen (by exact at_) rfl | exact .t (by exact at_) rfl rfl (by first | exact True.intro | rfl) (by assumption) | exact .f (by exact at_) rfl rfl (by first | exact True.intro | rfl) (by assumption) rfl | exact .t1 (by exact at_) rfl rfl (by first | exact True.intro | rfl) (by assumption) | exact .f1 (by exact at_) rfl rfl (by first | exact True.intro | rfl) (by assumption) rfl | exact .r rfl rfl (by omega) (by omega) (by exact nth_Cd) rfl | exact .s rfl (by omega) (by assumption) | exact at_ | assumption | exact .r rfl rfl | exact .h rfl rfl rfl (by omega) | exact .l rfl rfl rfl (by omega) (by omega) | exact .g rfl rfl rfl rfl (by omega) (by omega) | exact .h rfl rfl (toN_ (by omega)) (by omega) | exact .l rfl rfl (toN_ (by omega)) (by omega) (by omega) | exact .g rfl rfl (toN_ (by omega)) (toN_ (by omega)) (by omega) (by omega) | exact .o (by decide) | exact .f (by decide) | exact .n (by omega) (by first | decide | (show _ ≤ ((64 : Nat) : Int); omega)) | (constructor; (repeat (first | exact .t (by omega) | exact .f (by omega) | exact .u | exact .i (by omega) | exact .v (by omega) | exact .b (by omega) | exact .w | rfl | omega)); first | done | fail) | omega | (show _ ≤ ((64 : Nat) : Int); omega)) : φ := h
theorem pv_Cd {φ : Prop} (h : φ := by constructor; (repeat exact cl_Cd); first | done | fail) : φ := h
theorem su_Cd {φ ψ : Prop} (k : ψ) (h : Hide ψ → φ := by (intro k; (first | refine sl_pu (PuI.sep (by exact pv_Cd)) rfl ?_ | refine sl_yes rfl rfl ?_ | refine sl_no rfl rfl rfl ?_ | refine sl_off rfl rfl rfl ?_ | (fail)); exact k.out)) : φ := h ⟨k⟩
theorem rq_Cd {φ ψ : Prop} (k : ψ) (h : Hide ψ → φ := by (intro k; (first | refine wq_pu (PuI.sep (by exact pv_Cd)) rfl ?_ | refine wq_yes rfl rfl ?_ | refine wq_no rfl rfl rfl ?_ | refine wq_off rfl rfl rfl ?_ | (fail)); exact k.out)) : φ := h ⟨k⟩
theorem sto_Cd {φ ψ : Prop} (k : ψ) (h : Hide ψ → φ := by (intro k; (first | refine sl_store rfl (by exact pick_) rfl rfl (by kernel_rfl) (by exact set_Cd) ?_ | refine sl_store_whole rfl (by exact pick_) rfl (by exact sz_Cd) (by exact sz_Cd) (by exact one_Cd) ?_); exact k.out)) : φ := h ⟨k⟩
theorem go_Cd {φ ψ : Prop} (k : ψ) (h : Hide ψ → φ := by (intro k; (repeat (first | refine su_Cd ?_ | refine so_ ?_ | refine sto_Cd ?_)); exact k.out)) : φ := h ⟨k⟩
set_option maxRecDepth 100000 in
set_option maxHeartbeats 8000000 in
theorem scirc_ok {K : List Fa} {k f b l w c : Int} (hk : 0 ≤ k ∧ k ≤ 255) (hf : 0 ≤ f ∧ f ≤ 255) (hb : 0 ≤ b ∧ b ≤ 255) (hl : 0 ≤ l ∧ l ≤ 255) (hw : 0 ≤ w ∧ w ≤ 255) (hc : 0 ≤ c ∧ c ≤ 255) :
    Fn Tryz.prog 40 #[.agg (sCells k f b l w c).toArray] K (Ret (fun _ : Unit => True) (fun _ => .agg (sC k f b l w c).toArray) (fun _ => K)) := by
  refine fn_enter Tryz.func40 rfl _ Tryz.ntmps40 (by simp) [(0, .agg (sCells k f b l w c).toArray)] (args_of (by simp)) ?_
  refine go_Cd ?_
  refine sl_box rfl rfl rfl ?_; intro g1
  refine sl_alloc rfl rfl rfl ?_; intro g2
  refine go_Cd ?_
  refine sl_pu (pu_build (v := .agg (cCells (1 + k % 5) (1 + f % 2) 0 0 0 0).toArray) rfl (fun W => by kernel_rfl)) rfl ?_
  refine sl_alloc rfl rfl rfl ?_; intro g3
  refine go_Cd ?_
  ((refine sq_region (by kernel_rfl) (by kernel_rfl) ?_; (repeat refine rq_Cd ?_); refine sq_end ?_))
  refine go_Cd ?_
  have hkd : 1 ≤ 1 + k % 5 ∧ 1 + k % 5 ≤ 5 := by omega
  unfold sC
  generalize 1 + k % 5 = kd at hkd ⊢
  have hmw : 0 ≤ w % (1 + l % 5) ∧ w % (1 + l % 5) ≤ 4 := ⟨Int.emod_nonneg _ (by omega), by have := Int.emod_lt_of_pos w (show 0 < 1 + l % 5 by omega); omega⟩
  by_cases h2 : kd = 2
  · subst h2
    rw [show sBt 2 b = 1 + b % 4 by simp [sBt], show sLn 2 l = 0 by simp [sLn], show sWt 2 l w = 0 by simp [sWt], show sCh 2 c = 0 by simp [sCh]]
    refine go_Cd ?_
    exact se_ret_c () trivial rfl rfl (by exact at_) rfl rfl rfl rfl (by exact sub_)
  by_cases h3 : kd = 3
  · subst h3
    rw [show sBt 3 b = 1 + b % 4 by simp [sBt], show sLn 3 l = 1 + (1 + l % 5) % 3 by simp [sLn], show sWt 3 l w = 0 by simp [sWt], show sCh 3 c = 1 + c % 4 by simp [sCh]]
    refine go_Cd ?_
    refine sd_drawn (fun W => AllP W [blk g1 23 (sCells k f b l w c)]) (fun _ => true) (by kernel_rfl) 15 rfl ?_
    refine sd_yes2 0 rfl (by exact gd_) (by kernel_rfl) (by kernel_rfl) (by exact nop_) (PuI.all (by exact pv_Cd)) rfl (fun w hw => all_ hw) ?_
    refine sd_yes2 1 rfl (by exact gd_) (by kernel_rfl) (by kernel_rfl) (by exact nop_) (PuI.all (by exact pv_Cd)) rfl (fun w hw => all_ hw) ?_
    refine sd_yes2 2 rfl (by exact gd_) (by kernel_rfl) (by kernel_rfl) (by exact nop_) (PuI.all (by exact pv_Cd)) rfl (fun w hw => all_ hw) ?_
    refine sd_yes2 3 rfl (by exact gd_) (by kernel_rfl) (by kernel_rfl) (by exact nop_) (PuI.all (by exact pv_Cd)) rfl (fun w hw => all_ hw) ?_
    refine sd_yes2 4 rfl (by exact gd_) (by kernel_rfl) (by kernel_rfl) (by exact nop_) (PuI.all (by exact pv_Cd)) rfl (fun w hw => all_ hw) ?_
    refine sd_yes2 5 rfl (by exact gd_) (by kernel_rfl) (by kernel_rfl) (by exact nop_) (PuI.all (by exact pv_Cd)) rfl (fun w hw => all_ hw) ?_
    refine sd_yes2 6 rfl (by exact gd_) (by kernel_rfl) (by kernel_rfl) (by exact nop_) (PuI.all (by exact pv_Cd)) rfl (fun w hw => all_ hw) ?_
    refine sd_yes2 7 rfl (by exact gd_) (by kernel_rfl) (by kernel_rfl) (by exact nop_) (PuI.all (by exact pv_Cd)) rfl (fun w hw => all_ hw) ?_
    refine sd_yes2 8 rfl (by exact gd_) (by kernel_rfl) (by kernel_rfl) (by exact nop_) (PuI.all (by exact pv_Cd)) rfl (fun w hw => all_ hw) ?_
    refine sd_yes2 9 rfl (by exact gd_) (by kernel_rfl) (by kernel_rfl) (by exact nop_) (PuI.all (by exact pv_Cd)) rfl (fun w hw => all_ hw) ?_
    refine sd_one 10 (by kernel_rfl) (sa_sl 10 rfl ?_)
    refine sl_store rfl (by exact pick_) rfl rfl (by kernel_rfl) (by exact set_Cd) ?_
    refine sl_nil ?_
    refine se_sd (fun _ w hw => all_ hw) ?_
    refine sd_yes2 11 rfl (by exact gd_) (by kernel_rfl) (by kernel_rfl) (by exact nop_) (PuI.all (by exact pv_Cd)) rfl (fun w hw => all_ hw) ?_
    refine sd_one 12 (by kernel_rfl) (sa_sl 12 rfl ?_)
    refine sl_store rfl (by exact pick_) rfl rfl (by kernel_rfl) (by exact set_Cd) ?_
    refine sl_nil ?_
    refine se_sd (fun _ w hw => all_ hw) ?_
    refine sd_yes2 13 rfl (by exact gd_) (by kernel_rfl) (by kernel_rfl) (by exact nop_) (PuI.all (by exact pv_Cd)) rfl (fun w hw => all_ hw) ?_
    refine sd_one 14 (by kernel_rfl) (sa_sl 14 rfl ?_)
    refine sl_store rfl (by exact pick_) rfl rfl (by kernel_rfl) (by exact set_Cd) ?_
    refine sl_nil ?_
    refine se_sd (fun _ w hw => all_ hw) ?_
    refine sd_done (by kernel_rfl) ?_
    refine go_Cd ?_
    exact se_ret_c () trivial rfl rfl (by exact at_) rfl rfl rfl rfl (by exact sub_)
  by_cases h4 : kd = 4
  · subst h4
    rw [show sBt 4 b = 0 by simp [sBt], show sLn 4 l = 1 + l % 5 by simp [sLn], show sWt 4 l w = 0 by simp [sWt], show sCh 4 c = 1 + c % 4 by simp [sCh]]
    refine go_Cd ?_
    refine sd_drawn (fun W => AllP W [blk g1 23 (sCells k f b l w c)]) (fun _ => true) (by kernel_rfl) 10 rfl ?_
    refine sd_yes2 0 rfl (by exact gd_) (by kernel_rfl) (by kernel_rfl) (by exact nop_) (PuI.all (by exact pv_Cd)) rfl (fun w hw => all_ hw) ?_
    refine sd_yes2 1 rfl (by exact gd_) (by kernel_rfl) (by kernel_rfl) (by exact nop_) (PuI.all (by exact pv_Cd)) rfl (fun w hw => all_ hw) ?_
    refine sd_yes2 2 rfl (by exact gd_) (by kernel_rfl) (by kernel_rfl) (by exact nop_) (PuI.all (by exact pv_Cd)) rfl (fun w hw => all_ hw) ?_
    refine sd_yes2 3 rfl (by exact gd_) (by kernel_rfl) (by kernel_rfl) (by exact nop_) (PuI.all (by exact pv_Cd)) rfl (fun w hw => all_ hw) ?_
    refine sd_yes2 4 rfl (by exact gd_) (by kernel_rfl) (by kernel_rfl) (by exact nop_) (PuI.all (by exact pv_Cd)) rfl (fun w hw => all_ hw) ?_
    refine sd_yes2 5 rfl (by exact gd_) (by kernel_rfl) (by kernel_rfl) (by exact nop_) (PuI.all (by exact pv_Cd)) rfl (fun w hw => all_ hw) ?_
    refine sd_yes2 6 rfl (by exact gd_) (by kernel_rfl) (by kernel_rfl) (by exact nop_) (PuI.all (by exact pv_Cd)) rfl (fun w hw => all_ hw) ?_
    refine sd_one 7 (by kernel_rfl) (sa_sl 7 rfl ?_)
    refine sl_store rfl (by exact pick_) rfl rfl (by kernel_rfl) (by exact set_Cd) ?_
    refine sl_nil ?_
    refine se_sd (fun _ w hw => all_ hw) ?_
    refine sd_yes2 8 rfl (by exact gd_) (by kernel_rfl) (by kernel_rfl) (by exact nop_) (PuI.all (by exact pv_Cd)) rfl (fun w hw => all_ hw) ?_
    refine sd_one 9 (by kernel_rfl) (sa_sl 9 rfl ?_)
    refine sl_store rfl (by exact pick_) rfl rfl (by kernel_rfl) (by exact set_Cd) ?_
    refine sl_nil ?_
    refine se_sd (fun _ w hw => all_ hw) ?_
    refine sd_done (by kernel_rfl) ?_
    refine go_Cd ?_
    exact se_ret_c () trivial rfl rfl (by exact at_) rfl rfl rfl rfl (by exact sub_)
  by_cases h5 : kd = 5
  · subst h5
    rw [show sBt 5 b = 0 by simp [sBt], show sLn 5 l = 1 + l % 5 by simp [sLn], show sWt 5 l w = 1 + w % (1 + l % 5) by simp [sWt], show sCh 5 c = 1 + c % 4 by simp [sCh]]
    refine go_Cd ?_
    refine sd_drawn (fun W => AllP W [blk g1 23 (sCells k f b l w c)]) (fun _ => true) (by kernel_rfl) 10 rfl ?_
    refine sd_yes2 0 rfl (by exact gd_) (by kernel_rfl) (by kernel_rfl) (by exact nop_) (PuI.all (by exact pv_Cd)) rfl (fun w hw => all_ hw) ?_
    refine sd_yes2 1 rfl (by exact gd_) (by kernel_rfl) (by kernel_rfl) (by exact nop_) (PuI.all (by exact pv_Cd)) rfl (fun w hw => all_ hw) ?_
    refine sd_yes2 2 rfl (by exact gd_) (by kernel_rfl) (by kernel_rfl) (by exact nop_) (PuI.all (by exact pv_Cd)) rfl (fun w hw => all_ hw) ?_
    refine sd_yes2 3 rfl (by exact gd_) (by kernel_rfl) (by kernel_rfl) (by exact nop_) (PuI.all (by exact pv_Cd)) rfl (fun w hw => all_ hw) ?_
    refine sd_yes2 4 rfl (by exact gd_) (by kernel_rfl) (by kernel_rfl) (by exact nop_) (PuI.all (by exact pv_Cd)) rfl (fun w hw => all_ hw) ?_
    refine sd_yes2 5 rfl (by exact gd_) (by kernel_rfl) (by kernel_rfl) (by exact nop_) (PuI.all (by exact pv_Cd)) rfl (fun w hw => all_ hw) ?_
    refine sd_yes2 6 rfl (by exact gd_) (by kernel_rfl) (by kernel_rfl) (by exact nop_) (PuI.all (by exact pv_Cd)) rfl (fun w hw => all_ hw) ?_
    refine sd_one 7 (by kernel_rfl) (sa_sl 7 rfl ?_)
    refine sl_store rfl (by exact pick_) rfl rfl (by kernel_rfl) (by exact set_Cd) ?_
    refine sl_nil ?_
    refine se_sd (fun _ w hw => all_ hw) ?_
    refine sd_yes2 8 rfl (by exact gd_) (by kernel_rfl) (by kernel_rfl) (by exact nop_) (PuI.all (by exact pv_Cd)) rfl (fun w hw => all_ hw) ?_
    refine sd_one 9 (by kernel_rfl) (sa_sl 9 rfl ?_)
    refine sl_store rfl (by exact pick_) rfl rfl (by kernel_rfl) (by exact set_Cd) ?_
    refine sl_nil ?_
    refine se_sd (fun _ w hw => all_ hw) ?_
    refine sd_done (by kernel_rfl) ?_
    refine go_Cd ?_
    exact se_ret_c () trivial rfl rfl (by exact at_) rfl rfl rfl rfl (by exact sub_)
  · obtain rfl : kd = 1 := by omega
    rw [show sBt 1 b = 0 by simp [sBt], show sLn 1 l = 0 by simp [sLn], show sWt 1 l w = 0 by simp [sWt], show sCh 1 c = 0 by simp [sCh]]
    refine go_Cd ?_
    exact se_ret_c () trivial rfl rfl (by exact at_) rfl rfl rfl rfl (by exact sub_)
end Go.Proofs.YtocaabnbmcpjmaaGreat
/- The small tasks. -/
namespace Go.Proofs.YtocaabnbmcpjmaaGreat
open Go.RowKit
attribute [local irreducible] Go.Calls Go.Exit.then Go.Exit.inBlock Go.bodyPost Go.Code.wp Go.wpList
def tagS (m : Int) : ByteArray := if m = 0 then ⟨#[]⟩ else if m = 1 then ⟨#[116]⟩ else ⟨#[116, 97, 108, 108, 121]⟩
def tagL : List Value := [.string ⟨#[]⟩, .string ⟨#[116]⟩, .string ⟨#[116, 97, 108, 108, 121]⟩]
theorem tag_nth {x : Int} (h : 0 ≤ x ∧ x ≤ 255) : nth tagL ((x % 3).toNat * 1) = some (.string (tagS (x % 3))) := by
  rcases (show x % 3 = 0 ∨ x % 3 = 1 ∨ x % 3 = 2 by omega) with e | e | e <;> rw [e] <;> rfl
/-- A small task's numbers. -/
structure Sk where
  k : Int
  f : Int
  b : Int
  l : Int
  w : Int
  c : Int
  p : Int
  t : Int
  hk : 0 ≤ k ∧ k ≤ 255
  hf : 0 ≤ f ∧ f ≤ 255
  hb : 0 ≤ b ∧ b ≤ 255
  hl : 0 ≤ l ∧ l ≤ 255
  hw : 0 ≤ w ∧ w ≤ 255
  hc : 0 ≤ c ∧ c ≤ 255
  hp : 0 ≤ p ∧ p ≤ 255
  ht : 0 ≤ t ∧ t ≤ 255
def Sk.cells (s : Sk) : List Value := sCells s.k s.f s.b s.l s.w s.c ++ [.int .u8 s.p, .int .u8 s.t]
/-- Its task. -/
def Sk.tc (s : Sk) : List Value := sC s.k s.f s.b s.l s.w s.c ++ [.int .i64 (1 + s.p % 3), .string (tagS (s.t % 3))]
theorem Sk.tc_one (s : Sk) : ∀ v ∈ s.tc, v.oneCell' = true := by
  intro v hv
  simp only [Sk.tc, sC, cCells, List.cons_append, List.nil_append, List.mem_cons, List.not_mem_nil, or_false] at hv
  rcases hv with rfl | rfl | rfl | rfl | rfl | rfl | rfl | rfl <;> rfl
theorem nth_Ce {φ : Prop} (h : φ := by (first | rfl | rfl)) : φ := h
theorem mid_Ce {φ : Prop} (h : φ := by (first | first | exact Mid.head | exact Mid.all | exact Mid.all | exact Mid.head)) : φ := h
theorem sz_Ce {φ : Prop} (h : φ := by (first | rfl | (rfl; first | done | fail))) : φ := h
theorem one_Ce {φ : Prop} (h : φ := by (first | assumption | exact one_bytes _ | (simp only [List.mem_cons, List.not_mem_nil, or_false, forall_eq_or_imp, forall_eq]; decide) | exact one_bytes _ | (intro v hv; (repeat (rcases List.mem_cons.1 hv with rfl | hv; rfl)); cases hv))) : φ := h
theorem set_Ce {φ : Prop} (h : φ := by (first | (fail) | ((repeat (first | exact SetAt.here | apply SetAt.there)); first | done | fail))) : φ := h
theorem cl_Ce {φ : Prop} (h : φ := by first | rfl | exact .t | exact .f | exact .t (by omega) | exact .f (by omega) | exact .u | exact .i (by (first | exact .t (by omega) | exact .f (by omega) | exact .u | exact .i (by omega) | exact .v (by omega) | exact .b (by omega) | exact .w | rfl | omega)) | exact .v (by omega) | exact .b (by omega) | exact .q (by omega) | exact .w | exact .b (by exact at_) rfl (by exact nth_Ce) | exact .w (by exact at_) rfl rfl (by exact sz_Ce) | exact .s (by exact at_) (by exact mid_Ce) rfl rfl (by exact sz_Ce) | exact .z rfl rfl ⟨by kernel_rfl⟩ | exact .b rfl rfl ⟨by kernel_rfl⟩ | exact .a rfl rfl ⟨by kernel_rfl⟩ | exact .o rfl | exact .s | exact .n | exact .p rfl | exact .q rfl | exact .c rfl | exact .d rfl | exact .n rfl rfl (by omega) | exact .a rfl rfl (by omega) | exact .p rfl rfl (by omega) (by omega) | exact .y rfl rfl (by omega) (by omega) | exact .o (by exact at_) (by omega) rfl (by exact nth_Ce) | exact .m (by exact at_) (by omega) (by exact mid_Ce) rfl rfl (by exact sz_Ce) | exact .mlen (by exact at_) rfl | exact .t (by exact at_) rfl rfl (by first | exact True.intro | rfl) (by assumption) | exact .f (by exact at_) rfl rfl (by first | exact True.intro | rfl) (by assumption) rfl | exact .t1 (by exact at_) rfl rfl (by first | exact True.intro | rfl) (by assumption) | exact .f1 (by exact at_) rfl rfl (by first | exact True.intro | rfl) (by assumption) rfl | exact .r rfl rfl (by omega) (by omega) (by exact nth_Ce) rfl | exact .s rfl (by omega) (by assumption) | exact at_ | assumption | exact .r rfl rfl | exact .h rfl rfl rfl (by omega) | exact .l rfl rfl rfl (by omega) (by omega) | exact .g rfl rfl rfl rfl (by omega) (by omega) | exact .h rfl rfl (toN_ (by omega)) (by omega) | exact .l rfl rfl (toN_ (by omega)) (by omega) (by omega) | exact .g rfl rfl (toN_ (by omega)) (toN_ (by omega)) (by omega) (by omega) | exact .o (by decide) | exact .f (by decide) | exact .n (by omega) (by first | decide | (show _ ≤ ((64 : Nat) : Int); omega)) | (constructor; (repeat (first | exact .t (by omega) | exact .f (by omega) | exact .u | exact .i (by omega) | exact .v (by omega) | exact .b (by omega) | exact .w | rfl | omega)); first | done | fail) | omega | (show _ ≤ ((64 : Nat) : Int); omega)) : φ := h
theorem pv_Ce {φ : Prop} (h : φ := by constructor; (repeat exact cl_Ce); first | done | fail) : φ := h
theorem su_Ce {φ ψ : Prop} (k : ψ) (h : Hide ψ → φ := by (intro k; (first | refine sl_pu (PuI.sep (by exact pv_Ce)) rfl ?_ | refine sl_yes rfl rfl ?_ | refine sl_no rfl rfl rfl ?_ | refine sl_off rfl rfl rfl ?_ | (fail)); exact k.out)) : φ := h ⟨k⟩
theorem sto_Ce {φ ψ : Prop} (k : ψ) (h : Hide ψ → φ := by (intro k; (first | refine sl_store rfl (by exact pick_) rfl rfl (by kernel_rfl) (by exact set_Ce) ?_ | refine sl_store_whole rfl (by exact pick_) rfl (by exact sz_Ce) (by exact sz_Ce) (by exact one_Ce) ?_); exact k.out)) : φ := h ⟨k⟩
theorem go_Ce {φ ψ : Prop} (k : ψ) (h : Hide ψ → φ := by (intro k; (repeat (first | refine su_Ce ?_ | refine so_ ?_ | refine sto_Ce ?_)); exact k.out)) : φ := h ⟨k⟩
set_option maxRecDepth 100000 in
set_option maxHeartbeats 8000000 in
theorem stask_ok {K : List Fa} (s : Sk) :
    Fn Tryz.prog 7 #[.agg s.cells.toArray] K (Ret (fun _ : Unit => True) (fun _ => .agg s.tc.toArray) (fun _ => K)) := by
  refine fn_enter Tryz.func7 rfl _ Tryz.ntmps7 (by simp) [(0, .agg s.cells.toArray)] (args_of (by simp)) ?_
  have h1 := s.hp
  have h2 := s.ht
  refine go_Ce ?_
  refine sl_box rfl rfl rfl ?_; intro g1
  refine sl_alloc rfl rfl rfl ?_; intro g2
  refine go_Ce ?_
  refine sd_drawn (fun W => AllP W [blk g1 25 s.cells]) (fun _ => true) (by kernel_rfl) 16 rfl ?_
  refine sd_yes2 0 rfl (by exact gd_) (by kernel_rfl) (by kernel_rfl) (by exact nop_) (PuI.all (by exact pv_Ce)) rfl (fun w hw => all_ hw) ?_
  refine sd_yes2 1 rfl (by exact gd_) (by kernel_rfl) (by kernel_rfl) (by exact nop_) (PuI.all (by exact pv_Ce)) rfl (fun w hw => all_ hw) ?_
  refine sd_yes2 3 rfl (by exact gd_) (by kernel_rfl) (by kernel_rfl) (by exact nop_) (PuI.all (by exact pv_Ce)) rfl (fun w hw => all_ hw) ?_
  refine sd_yes2 4 rfl (by exact gd_) (by kernel_rfl) (by kernel_rfl) (by exact nop_) (PuI.all (by exact pv_Ce)) rfl (fun w hw => all_ hw) ?_
  refine sd_yes2 5 rfl (by exact gd_) (by kernel_rfl) (by kernel_rfl) (by exact nop_) (PuI.all (by exact pv_Ce)) rfl (fun w hw => all_ hw) ?_
  refine sd_yes2 6 rfl (by exact gd_) (by kernel_rfl) (by kernel_rfl) (by exact nop_) (PuI.all (by exact pv_Ce)) rfl (fun w hw => all_ hw) ?_
  refine sd_yes2 7 rfl (by exact gd_) (by kernel_rfl) (by kernel_rfl) (by exact nop_) (PuI.all (by exact pv_Ce)) rfl (fun w hw => all_ hw) ?_
  refine sd_yes2 9 rfl (by exact gd_) (by kernel_rfl) (by kernel_rfl) (by exact nop_) (PuI.all (by exact pv_Ce)) rfl (fun w hw => all_ hw) ?_
  refine sd_yes2 10 rfl (by exact gd_) (by kernel_rfl) (by kernel_rfl) (by exact nop_) (PuI.all (by exact pv_Ce)) rfl (fun w hw => all_ hw) ?_
  refine sd_yes2 11 rfl (by exact gd_) (by kernel_rfl) (by kernel_rfl) (by exact nop_) (PuI.all (by exact pv_Ce)) rfl (fun w hw => all_ hw) ?_
  refine sd_two 2 8 (by kernel_rfl) (sa_sl 2 rfl ?_) (sa_sl 8 rfl ?_)
  · refine sl_call rfl rfl (by kernel_rfl) rfl (by exact sub_) (scirc_ok s.hk s.hf s.hb s.hl s.hw s.hc) ?_
    rintro _ -
    refine sl_nil ?_
    refine se_sd (fun _ w hw => all_ hw) ?_
    refine sd_one 8 (by kernel_rfl) (sa_sl 8 rfl ?_)
    refine sl_build (size := 1) (e := 9) (cells := tagL) rfl (fun W => by kernel_rfl) rfl (by decide) rfl ?_
    intro gb
    refine sl_nil ?_
    refine se_sd (fun _ w hw => all_ hw) ?_
    refine sd_yes2 12 rfl (by exact gd_) (by kernel_rfl) (by kernel_rfl) (by exact nop_) (PuI.all (by exact pv_Ce)) rfl (fun w hw => all_ hw) ?_
    refine sd_one 13 (by kernel_rfl) (sa_sl 13 rfl ?_)
    refine sl_pu (pu_ldr (size := 1) (m := 3) (Vw.of_own (e := 9) (A := some ⟨gb, 0, none⟩) (c := 3) (by exact at_)) (by omega) rfl rfl (tag_nth s.ht)) rfl ?_
    refine sl_nil ?_
    refine se_sd (fun _ w hw => all_ hw) ?_
    refine sd_yes2 14 rfl (by exact gd_) (by kernel_rfl) (by kernel_rfl) (by exact nop_) (pu_build (v := .agg s.tc.toArray) rfl (fun W => by kernel_rfl)) rfl (fun w hw => all_ hw) ?_
    refine sd_one 15 (by kernel_rfl) (sa_sl 15 rfl ?_)
    refine sl_store_whole rfl (by exact pick_) rfl (by rfl) (by rfl) s.tc_one ?_
    refine sl_nil ?_
    refine se_sd (fun _ w hw => all_ hw) ?_
    refine sd_done (by kernel_rfl) ?_
    refine go_Ce ?_
    exact se_ret_c () trivial rfl rfl (by exact at_) rfl rfl rfl rfl (by exact sub_)
  · refine sl_build (size := 1) (e := 9) (cells := tagL) rfl (fun W => by kernel_rfl) rfl (by decide) rfl ?_
    intro gb
    refine sl_nil ?_
    refine se_sd (fun _ w hw => all_ hw) ?_
    refine sd_yes2 12 rfl (by exact gd_) (by kernel_rfl) (by kernel_rfl) (by exact nop_) (PuI.all (by exact pv_Ce)) rfl (fun w hw => all_ hw) ?_
    refine sd_two 2 13 (by kernel_rfl) (sa_sl 2 rfl ?_) (sa_sl 13 rfl ?_)
    · refine sl_call rfl rfl (by kernel_rfl) rfl (by exact sub_) (scirc_ok s.hk s.hf s.hb s.hl s.hw s.hc) ?_
      rintro _ -
      refine sl_nil ?_
      refine se_sd (fun _ w hw => all_ hw) ?_
      refine sd_one 13 (by kernel_rfl) (sa_sl 13 rfl ?_)
      refine sl_pu (pu_ldr (size := 1) (m := 3) (Vw.of_own (e := 9) (A := some ⟨gb, 0, none⟩) (c := 3) (by exact at_)) (by omega) rfl rfl (tag_nth s.ht)) rfl ?_
      refine sl_nil ?_
      refine se_sd (fun _ w hw => all_ hw) ?_
      refine sd_yes2 14 rfl (by exact gd_) (by kernel_rfl) (by kernel_rfl) (by exact nop_) (pu_build (v := .agg s.tc.toArray) rfl (fun W => by kernel_rfl)) rfl (fun w hw => all_ hw) ?_
      refine sd_one 15 (by kernel_rfl) (sa_sl 15 rfl ?_)
      refine sl_store_whole rfl (by exact pick_) rfl (by rfl) (by rfl) s.tc_one ?_
      refine sl_nil ?_
      refine se_sd (fun _ w hw => all_ hw) ?_
      refine sd_done (by kernel_rfl) ?_
      refine go_Ce ?_
      exact se_ret_c () trivial rfl rfl (by exact at_) rfl rfl rfl rfl (by exact sub_)
    · refine sl_pu (pu_ldr (size := 1) (m := 3) (Vw.of_own (e := 9) (A := some ⟨gb, 0, none⟩) (c := 3) (by exact at_)) (by omega) rfl rfl (tag_nth s.ht)) rfl ?_
      refine sl_nil ?_
      refine se_sd (fun _ w hw => all_ hw) ?_
      refine sd_one 2 (by kernel_rfl) (sa_sl 2 rfl ?_)
      refine sl_call rfl rfl (by kernel_rfl) rfl (by exact sub_) (scirc_ok s.hk s.hf s.hb s.hl s.hw s.hc) ?_
      rintro _ -
      refine sl_nil ?_
      refine se_sd (fun _ w hw => all_ hw) ?_
      refine sd_yes2 14 rfl (by exact gd_) (by kernel_rfl) (by kernel_rfl) (by exact nop_) (pu_build (v := .agg s.tc.toArray) rfl (fun W => by kernel_rfl)) rfl (fun w hw => all_ hw) ?_
      refine sd_one 15 (by kernel_rfl) (sa_sl 15 rfl ?_)
      refine sl_store_whole rfl (by exact pick_) rfl (by rfl) (by rfl) s.tc_one ?_
      refine sl_nil ?_
      refine se_sd (fun _ w hw => all_ hw) ?_
      refine sd_done (by kernel_rfl) ?_
      refine go_Ce ?_
      exact se_ret_c () trivial rfl rfl (by exact at_) rfl rfl rfl rfl (by exact sub_)
end Go.Proofs.YtocaabnbmcpjmaaGreat
/- A literal's bytes, as the run-time marks them: read only. No program is in sight. -/
namespace Go.Proofs.YtocaabnbmcpjmaaGreat
open Go.RowKit
def LitP (e : TypeId) (g : Nat) (cs : List Value) (w : World) : Prop := w.heap[g]? = some (.cells cs.toArray e (cs.length, cs.length + 1))
def lit (e : TypeId) (g : Nat) (cs : List Value) : Fa := ⟨LitP e g cs, fun k => k = g, fun h e => by rw [e]; exact (Array.getElem?_eq_some_iff.1 h).1, fun h hF hn => (hF.block g (Array.getElem?_eq_some_iff.1 h).1 (hn g rfl)).trans h⟩
theorem lit_P {e : TypeId} {g : Nat} {cs : List Value} {w : World} : (lit e g cs).P w = LitP e g cs w := rfl
theorem lit_F {e : TypeId} {g k : Nat} {cs : List Value} : (lit e g cs).F k = (k = g) := rfl
attribute [irreducible] lit
section
variable {P : Program} {ops : Array Oper} {Q : Exit → Act → World → Prop} {n : Nat} {l : Env} {L L' : List Fa} {rest : List Oper} {d : Tmp} {ty t e : TypeId} {pos : String} {after : Array Edge} {x : Operand} {g k : Nat} {cs : List Value}
theorem lit_vw (h : At (lit e g cs) L) : Vw L (fun w => Reads w 1 (some ⟨g, 0, none⟩) cs.length cs) := fun w hw => by
  have h1 : LitP e g cs w := lit_P ▸ hw.at h
  unfold LitP at h1
  refine ⟨(Nat.mul_one _).symm, fun _ => ⟨_, rfl, fun j v hv => ?_⟩⟩
  rw [add_none, Nat.zero_add]
  simp only [World.cell?, h1]
  simpa using hv
theorem sl_mark (hx : ev l x = some (.slice (some ⟨g, 0, none⟩) k k)) (hp : Pick (own e 1 (some ⟨g, 0, none⟩) k k cs) L L') (ht : P.underlying t = some (.slice e)) (he : P.underlying e = some (.int .u8)) (hd : Nat.blt d n = true)
    (h : SL P ops Q rest n ((d, .slice (some ⟨g, 0, none⟩) k k) :: l) (lit e g cs :: L')) : SL P ops Q (⟨some d, .convert t t x, ty, pos, after, none⟩ :: rest) n l L := sl_of fun w hw => by
  have h2 := hw.pick hp
  have hO : w.ownsRow 0 e 1 (.slice (some ⟨g, 0, none⟩) k k) k cs := by
    have := h2.hd
    unfold own at this
    exact this
  obtain ⟨cur, hB, _, _, hcs, htk, hxl⟩ := own_open hO
  rw [Nat.mul_one] at hcs htk hxl
  have hcur : cur = cs.toArray := by
    apply Array.ext'
    rw [List.toList_toArray, ← htk, List.take_of_length_le (by simp [hcs])]
  subst hcur
  unfold Blk at hB
  have hg : g < w.heap.size := (Array.getElem?_eq_some_iff.1 hB).1
  have hsh : w.shape? g = some (e, cs.length) := by
    unfold World.shape?
    rw [hB]
    simp
  refine wl_run (v := .slice (some ⟨g, 0, none⟩) k k) (w' := w.freeze ⟨g, cs.length, none⟩ 1) ?_ hd (h.to ?_)
  · unfold Ru
    intro a _ _ _ _ hs
    simp only [execOp, hs.ev hx]
    simp [convert, run_underlying ht, run_underlying he, markStringish, hsh]
  · refine h2.step (S := fun j => j = g) ⟨rfl, rfl, rfl, ?_, fun j hj hn => ?_⟩ (fun j _ e => by rw [own_F]; exact congrArg some e.symm) ?_ (fun j hj => .inl (by rw [lit_F] at hj; rw [own_F]; exact congrArg some hj.symm))
    · simp [World.freeze]
    · have : g ≠ j := fun e => hn e.symm
      simp [World.freeze, Array.getElem?_modify, this]
    · rw [lit_P]
      unfold LitP World.freeze
      simp [Array.getElem?_modify, hB]
end
end Go.Proofs.YtocaabnbmcpjmaaGreat
/- Package store: the fixed fact of the chapter. -/
namespace Go.Proofs.YtocaabnbmcpjmaaGreat
open Go.RowKit Go.MapKept
attribute [local irreducible] Go.Calls Go.Exit.then Go.Exit.inBlock Go.bodyPost Go.Code.wp Go.wpList takeL recordL hashL recL allL decR
def sk0 : Sk := ⟨0, 0, 0, 0, 0, 0, 0, 0, by decide, by decide, by decide, by decide, by decide, by decide, by decide, by decide⟩
def ta0 : Ta := ⟨1 + 0 % 5, 1 + 0 % 2, sBt (1 + 0 % 5) 0, sLn (1 + 0 % 5) 0, sWt (1 + 0 % 5) 0 0, sCh (1 + 0 % 5) 0, 1 + 0 % 3, tagS (0 % 3)⟩
theorem sk0_tc : sk0.tc = ta0.c := rfl
theorem idW_ok : IsBytes (1 :: List.replicate 15 0) := fun x hx => by
  rcases List.mem_cons.1 hx with e | e
  · omega
  · rw [List.eq_of_mem_replicate e]; omega
def idW : Id := ⟨1 :: List.replicate 15 0, rfl, idW_ok⟩
abbrev lsA : List (List Int) := [5 :: rcLife 1]
abbrev lsB : List (List Int) := [5 :: rcLife 1, 1 :: rcAcc idW 5 [] [120]]
def iN (p : JO) (_ : Nat) (_ : Nat) (q : StM) : Prop := q.gj = p.gj ∧ q.ss = [] ∧ q.fs = [] ∧ q.ws = [] ∧ q.sd = [] ∧ q.life = 0
def iC (p : JO) (_ : Nat) (j : Nat) (q : StM) : Prop := q.gj = p.gj ∧ (j = 0 → q.ss = [] ∧ q.ws = [] ∧ q.life = 0) ∧ (j = 1 → q.ss = [] ∧ q.ws = [] ∧ q.life = 1) ∧ (j = 2 → q.life = 1 ∧ ∃ x, q.ws = [x] ∧ x.id = idW ∧ x.t = 5 ∧ x.p = [] ∧ x.s = [120])
theorem lsB_len : ∀ x ∈ lsB, x.length ≤ 40 := by decide
theorem lsB_b : ∀ x ∈ lsB, IsBytes x := by unfold IsBytes; decide
theorem lsB_c : cellsA lsB = 2 := by decide
theorem ta0_err {r : Rl} (h1 : 1 ≤ r.w ∧ r.w ≤ 1099511627776) (h2 : 1 ≤ r.mn ∧ r.mn ≤ r.mx ∧ r.mx ≤ 256) : rErr r ta0 = 0 := by
  unfold rErr
  rw [if_neg (by decide), if_neg (by omega), if_neg (by omega)]
theorem iN_acc {q : StM} {p : JO} {g j : Nat} (h : iN p g j q) : accE ⟨10, 1, 5⟩ 9 { q with life := q.life + 1 } idW 5 0 1 = 0 := by
  obtain ⟨h1, h2, h3, h4, h5, h6⟩ := h
  unfold accE
  dsimp only
  rw [h2, h3]
  decide
theorem nth_Skv {φ : Prop} (h : φ := by (first | rfl | first | rfl | exact rpC_n16 | exact rpC_n17 | exact rpC_n18 | exact stC9_n9)) : φ := h
theorem mid_Skv {φ : Prop} (h : φ := by (first | first | exact rpC_id | exact stC9_mid | exact stC9_ci | exact Mid.all | exact Mid.all | exact Mid.head)) : φ := h
theorem sz_Skv {φ : Prop} (h : φ := by (first | rfl | ((try simp only [rpC_len, bytes_length, Id.len, Seen.len]); (first | done | rfl); first | done | fail))) : φ := h
theorem one_Skv {φ : Prop} (h : φ := by (first | assumption | exact first | exact one_bytes _ | exact rpC_one rfl rfl | exact Ta.one _ | exact Rl.one _ | (simp only [List.mem_cons, List.not_mem_nil, or_false, forall_eq_or_imp, forall_eq]; decide) | exact one_bytes _ | (intro v hv; (repeat (rcases List.mem_cons.1 hv with rfl | hv; rfl)); cases hv))) : φ := h
theorem set_Skv {φ : Prop} (h : φ := by (first | (first | exact rpC_set16 | exact rpC_set17 | exact rpC_set18) | ((repeat (first | exact SetAt.here | apply SetAt.there)); first | done | fail))) : φ := h
theorem cl_Skv {φ : Prop} (h : φ := by first | rfl | exact .t | exact .f | exact .t (by omega) | exact .f (by omega) | exact .u | exact .i (by (first | exact .t (by omega) | exact .f (by omega) | exact .u | exact .i (by omega) | exact .v (by omega) | exact .b (by omega) | exact .w | rfl | omega)) | exact .v (by omega) | exact .b (by omega) | exact .q (by omega) | exact .w | exact .b (by exact at_) rfl (by exact nth_Skv) | exact .w (by exact at_) rfl rfl (by exact sz_Skv) | exact .s (by exact at_) (by exact mid_Skv) rfl rfl (by exact sz_Skv) | exact .z rfl rfl ⟨by kernel_rfl⟩ | exact .b rfl rfl ⟨by kernel_rfl⟩ | exact .a rfl rfl ⟨by kernel_rfl⟩ | exact .o rfl | exact .s | exact .n | exact .p rfl | exact .q rfl | exact .c rfl | exact .d rfl | exact .n rfl rfl (by omega) | exact .a rfl rfl (by omega) | exact .p rfl rfl (by omega) (by omega) | exact .y rfl rfl (by omega) (by omega) | exact .o (by exact at_) (by omega) rfl (by exact nth_Skv) | exact .m (by exact at_) (by omega) (by exact mid_Skv) rfl rfl (by exact sz_Skv) | exact .mlen (by exact at_) rfl | exact .t (by exact at_) rfl rfl (by first | exact True.intro | rfl) (by assumption) | exact .f (by exact at_) rfl rfl (by first | exact True.intro | rfl) (by assumption) rfl | exact .t1 (by exact at_) rfl rfl (by first | exact True.intro | rfl) (by assumption) | exact .f1 (by exact at_) rfl rfl (by first | exact True.intro | rfl) (by assumption) rfl | exact .tk (by exact at_) rfl (by assumption) (by assumption) | exact .fk (by exact at_) rfl (by assumption) (by assumption) rfl | exact .tk1 (by exact at_) rfl (by assumption) (by assumption) | exact .fk1 (by exact at_) rfl (by assumption) (by assumption) rfl | exact .r rfl rfl (by omega) (by omega) (by exact nth_Skv) rfl | exact .s rfl (by omega) (by assumption) | exact at_ | assumption | exact .r rfl rfl | exact .h rfl rfl rfl (by omega) | exact .l rfl rfl rfl (by omega) (by omega) | exact .g rfl rfl rfl rfl (by omega) (by omega) | exact .h rfl rfl (toN_ (by omega)) (by omega) | exact .l rfl rfl (toN_ (by omega)) (by omega) (by omega) | exact .g rfl rfl (toN_ (by omega)) (toN_ (by omega)) (by omega) (by omega) | exact .o (by decide) | exact .f (by decide) | exact .n (by omega) (by first | decide | (show _ ≤ ((64 : Nat) : Int); omega)) | (constructor; (repeat (first | exact .t (by omega) | exact .f (by omega) | exact .u | exact .i (by omega) | exact .v (by omega) | exact .b (by omega) | exact .w | rfl | omega)); first | done | fail) | omega | (show _ ≤ ((64 : Nat) : Int); omega)) : φ := h
theorem pv_Skv {φ : Prop} (h : φ := by constructor; (repeat exact cl_Skv); first | done | fail) : φ := h
theorem su_Skv {φ ψ : Prop} (k : ψ) (h : Hide ψ → φ := by (intro k; (first | refine sl_pu (PuI.sep (by exact pv_Skv)) rfl ?_ | refine sl_yes rfl rfl ?_ | refine sl_no rfl rfl rfl ?_ | refine sl_off rfl rfl rfl ?_ | (fail)); exact k.out)) : φ := h ⟨k⟩
theorem sto_Skv {φ ψ : Prop} (k : ψ) (h : Hide ψ → φ := by (intro k; (first | refine sl_store rfl (by exact pick_) rfl rfl (by kernel_rfl) (by exact set_Skv) ?_ | refine sl_store_whole rfl (by exact pick_) rfl (by exact sz_Skv) (by exact sz_Skv) (by exact one_Skv) ?_); exact k.out)) : φ := h ⟨k⟩
theorem go_Skv {φ ψ : Prop} (k : ψ) (h : Hide ψ → φ := by (intro k; (repeat (first | refine su_Skv ?_ | refine so_ ?_ | refine sto_Skv ?_)); exact k.out)) : φ := h ⟨k⟩
abbrev rlA : Rl := ⟨10, 1, 5⟩
theorem hop1 {gd md : Nat} {K0 : List Fa} : Fn Tryz.prog 9 #[.pointer (some ⟨gd, 0, none⟩), .agg ta0.c.toArray, .agg rlA.c.toArray, .int .i64 9] (dB gd md 10000 :: dM md [] 0 :: dS [] :: K0)
    (Ret (orP (fun p => p.xs = [] ∧ p.fs = [] ∧ p.ck = 0) (fun _ => False) iN []) orV (orH ta0 rlA 9 10000 gd md [] K0)) :=
  open_ok (σ := 0) (ls := []) (Kp := KpN) (limit := 9) (ta0_err (by decide) (by decide)) (by decide) (by decide) (by decide) jopen_new
    (fun p hp => ⟨.inl ⟨rfl, hp.2.1, hp.2.2, rfl⟩, by rw [hp.1]; rfl, fun h => absurd hp.1 h⟩)
    (fun p g q _ h1 h2 h3 h4 h5 h6 => ⟨h1, h2, h3, h4, h5, h6⟩)
    (fun p g j x q K' hp hx => by rw [hp.1] at hx; cases hx)
    (fun p g q h => ⟨h.1, by rw [h.2.2.2.2.2]; decide, by rw [h.2.2.2.2.2]; decide⟩)
theorem hop2 {gd md ckd : Nat} {f : DF} {K0 : List Fa} (hf : JFl lsB (cellsA lsB * 64) f) : Fn Tryz.prog 9 #[.pointer (some ⟨gd, 0, none⟩), .agg ta0.c.toArray, .agg rlA.c.toArray, .int .i64 9] (dB gd md 10000 :: dM md [f] ckd :: dS [f] :: K0)
    (Ret (orP (JcP lsB) (fun _ => False) iC lsB) orV (orH ta0 rlA 9 10000 gd md lsB K0)) := by
  obtain ⟨h1, h2, h3, h4⟩ := hf
  have hc := lsB_c
  refine open_ok (σ := 0) (ls := lsB) (Kp := KpC) (limit := 9) (ta0_err (by decide) (by decide)) (by rw [hc]; decide) (by rw [hc]; decide) (by decide)
    (jopen_cut (ls := lsB) (r := 2) (mm := (allL lsB).length) h1 (by rw [h2, List.take_length]) (Nat.le_refl _) h3 ⟨Nat.le_refl _, by rw [allL_len]; exact Nat.le_refl _, fun h => absurd h (by decide)⟩ (fun x hx => by have := lsB_len x hx; omega) lsB_b (by rw [hc]; decide))
    (fun p hp => ⟨hp.2.2, by rw [← hp.1, List.length_map], fun _ => kpc_row p⟩)
    (fun p g q _ h1 h2 h3 h4 h5 h6 => ⟨h1, fun _ => ⟨h2, h4, h6⟩, fun e => (by cases e), fun e => (by cases e)⟩)
    (fun p g j x q K' hp hx hK' hI => ?_)
    (fun p g q h => ⟨h.1, by rw [(h.2.2.2 rfl).1]; decide, by rw [(h.2.2.2 rfl).1]; decide⟩)
  have hm : lsB[j]? = some x.l := by rw [← hp.1, List.getElem?_map, hx]; rfl
  have hlx := lsB_len _ (List.mem_of_getElem? hm)
  have hrd := kpc_rd hp hx (by omega)
  obtain ⟨i1, i2, i3, i4⟩ := hI
  have hj : j = 0 ∨ j = 1 := by
    have := (List.getElem?_eq_some_iff.1 hm).1
    have h2 : lsB.length = 2 := rfl
    omega
  rcases hj with rfl | rfl
  · obtain ⟨j1, j2, j3⟩ := i2 rfl
    have hxl : x.l = 5 :: rcLife 1 := by injection hm with e; exact e.symm
    rw [hxl] at hrd
    rw [show x.v = .slice x.A (5 :: rcLife 1).length x.c by rw [← hxl]; rfl]
    refine (again_life (n := 1) (by decide) (by decide) hK' hrd).say fun z w hz hw => ⟨z, ⟨fun _ => ?_, fun hz1 => ?_⟩, rfl, hw⟩
    · rw [hz]
      exact ⟨i1, fun e => (by cases e), fun _ => ⟨j1, j2, rfl⟩, fun e => (by cases e)⟩
    · rw [hz] at hz1
      exact hz1 rfl
  · obtain ⟨j1, j2, j3⟩ := i3 rfl
    have hxl : x.l = 1 :: rcAcc idW 5 [] [120] := by injection hm with e; exact e.symm
    rw [hxl] at hrd
    rw [show x.v = .slice x.A (1 :: rcAcc idW 5 [] [120]).length x.c by rw [← hxl]; rfl]
    have haI : addI (min (max 9 0) 256) q.ss ⟨idW, 5, 30, by decide, by decide⟩ = (0, [⟨idW, 5, 30, by decide, by decide⟩]) := by rw [j1]; rfl
    refine (again_acc (by decide) (by decide) (by decide) (by decide) hK' hrd (by rw [j1]; exact srt_nil) (by rw [j1]; decide) (fun _ => by rw [j2]; rfl)).say fun z w hz hw => ?_
    obtain ⟨A1, c1, pA, pc, sA, sc, rfl⟩ := hz
    refine ⟨_, ⟨fun _ => ⟨i1, fun e => (by cases e), fun e => (by cases e), fun _ => ⟨j3, ⟨idW, 5, pA, pc, [], sA, sc, [120], q.cw⟩, ?_, rfl, rfl, rfl, rfl⟩⟩, fun hz1 => ?_⟩, rfl, hw⟩
    · dsimp only [StM.acc]
      rw [haI, j2]
      rfl
    · rw [haI] at hz1
      exact hz1 rfl
set_option maxRecDepth 100000 in
set_option maxHeartbeats 8000000 in
theorem awake21 {K : List Fa} :
    Fn Tryz.prog 6 #[] K (Ret (fun _ : Unit => True) (fun _ => .bool true) (fun _ => K)) := by
  refine fn_enter Tryz.func6 rfl _ Tryz.ntmps6 (by simp) [] (args_of (by simp)) ?_
  refine go_Skv ?_
  refine sl_call rfl rfl (by kernel_rfl) rfl Sub.refl newD_ok ?_
  rintro ⟨gd, md⟩ -
  dsimp only
  rw [show limL 10000 = 10000 by rfl]
  refine go_Skv ?_
  refine sl_pu (pu_build (v := .agg sk0.cells.toArray) rfl (fun W => by kernel_rfl)) rfl ?_
  refine go_Skv ?_
  refine sl_call rfl rfl (by kernel_rfl) rfl Sub.refl (stask_ok sk0) ?_
  rintro _ -
  rw [sk0_tc]
  refine go_Skv ?_
  refine sl_pu (pu_build (v := .agg rlA.c.toArray) rfl (fun W => by kernel_rfl)) rfl ?_
  refine go_Skv ?_
  refine sl_alloc rfl rfl rfl ?_; intro g2
  refine sl_alloc rfl rfl rfl ?_; intro g3
  refine go_Skv ?_
  refine sl_call rfl rfl (by kernel_rfl) rfl (by exact sub_) (hop1 (gd := gd) (md := md) (K0 := blk g2 34 ta0.c :: blk g3 38 rlA.c :: K)) ?_
  rintro (p | ⟨g, q, f, ck⟩) hp
  · exact hp.2.elim
  obtain ⟨p, q0, hp1, hI, hq, hF⟩ := hp
  dsimp only at hq hF
  have hacc := iN_acc hI
  rw [← hq] at hacc
  obtain ⟨i1, i2, i3, i4, i5, i6⟩ := hI
  have hlf : q.life = 1 := by rw [hq, i6]; rfl
  have hss : q.ss = [] := by rw [hq]; exact i2
  have hws : q.ws = [] := by rw [hq]; exact i4
  rw [i6] at hF
  dsimp only [orV, orH]
  rw [hlf]
  refine go_Skv ?_
  refine sl_pu (pu_build (v := idW.v) rfl (fun W => by kernel_rfl)) rfl ?_
  refine go_Skv ?_
  refine sl_build (size := 1) (e := 5) (cells := bytes [120]) rfl (fun W => by kernel_rfl) rfl (by decide) rfl ?_
  intro g4
  refine go_Skv ?_
  refine sl_mark rfl (by exact pick_) rfl rfl rfl ?_
  refine go_Skv ?_
  refine sl_pu (pu_build (v := .agg (rpC idW 5 (.slice none 0 0) (.slice (some ⟨g4, 0, none⟩) 1 1)).toArray) rfl (fun W => by kernel_rfl)) rfl ?_
  refine go_Skv ?_
  have hsa := sAccept_ok (K := lit 5 g4 (bytes [120]) :: blk g2 34 ta0.c :: blk g3 38 rlA.c :: K) (g := g) (gd := gd) (md := md) (ckd := ck) (t := ta0) (r := rlA) (lim := 9) (limd := 10000) (q := q) (ls := lsA) (fs := [f]) (id := idW) (tm := 5) (pA := none) (sA := some ⟨g4, 0, none⟩) (p := []) (s := [120]) (pc := 0) (sc := 1)
    (by decide) (by decide) (by decide) (by rw [hss]; exact srt_nil) (by rw [hss]; decide) (fun _ => by rw [hws]; rfl) (fun w _ => Reads.nil_ _) (lit_vw (by exact at_)) (fun _ => ⟨.inr ⟨f, rfl, hF⟩, lsB_b _ (by decide), by decide, by decide, by decide, by decide⟩)
  rw [show accE rlA 9 q idW 5 ([] : List Int).length [(120 : Int)].length = 0 from hacc] at hsa
  refine sl_call rfl rfl (by kernel_rfl) rfl (by exact sub_) hsa ?_
  clear hsa
  rintro (_ | ⟨q2, f2, ck2⟩) hz
  · exact (hz rfl).elim
  obtain ⟨-, hF2, A1, c1, pA, pc, sA, sc, hq2⟩ := hz
  dsimp only at hF2 hq2
  dsimp only [saH]
  have hfl2 : f2.l.length = 128 := by rw [hF2.2.1, allL_len]; decide
  refine go_Skv ?_
  refine sl_call rfl rfl (by kernel_rfl) rfl (by exact sub_) (ssync_ok (g := g) (gj := q2.gj) (gi := q2.gi) (gb := q2.gb) (mw := q2.mw) (ms := q2.ms) (gd := gd) (md := md) (ckd := ck2) (t := ta0) (life := q2.life) (lim := 10000) (K := blk g2 34 ta0.c :: blk g3 38 rlA.c :: K) hF2 (by omega)) ?_
  rintro f3 hF3
  have hfl3 : f3.l.length = 128 := by rw [hF3.2.1, allL_len]; decide
  have hsy3 : f3.sy = 128 := by have h1 := hF3.2.2.1; have h2 := hF3.2.2.2; omega
  refine go_Skv ?_
  refine sl_call rfl rfl (by kernel_rfl) rfl (by exact sub_) (crash_one (K := blk g2 34 ta0.c :: blk g3 38 rlA.c :: K) (g := gd) (m := md) (ck := ck2) (lim := 10000) (keep := 0) (f := f3) hF3.2.2.1 (by omega)) ?_
  rintro f4 ⟨hs4, hl4, hy4⟩
  have hcr := crN_le (keep := 0) hF3.2.2.1
  have hcr2 : crN 0 f3.l f3.sy = 128 := by omega
  rw [hcr2] at hl4 hy4
  have hF4 : JFl lsB (cellsA lsB * 64) f4 := ⟨hs4.trans hF3.1, by rw [hl4, List.take_of_length_le (by omega)]; exact hF3.2.1, by rw [hy4, hl4, List.take_of_length_le (by omega)]; omega, by rw [hy4, lsB_c]; decide⟩
  refine go_Skv ?_
  refine sl_call rfl rfl (by kernel_rfl) rfl (by exact sub_) (hop2 (gd := gd) (md := md) (ckd := ck2) (f := f4) (K0 := blk g2 34 ta0.c :: blk g3 38 rlA.c :: K) hF4) ?_
  rintro (p5 | ⟨g5, q5, f5, ck5⟩) hp5
  · exact hp5.2.elim
  obtain ⟨p5, q6, hp6, hI6, hq6, hF6⟩ := hp5
  dsimp only at hq6 hF6
  obtain ⟨k1, -, -, k4⟩ := hI6
  obtain ⟨k5, x, k6, k7, k8, k9, k10⟩ := k4 rfl
  have hw5 : q5.ws = [x] := by rw [hq6]; exact k6
  have hl5 : q5.life = 2 := by rw [hq6, k5]; rfl
  dsimp only [orV, orH]
  refine go_Skv ?_
  refine sl_pu (pu_build (v := idW.v) rfl (fun W => by kernel_rfl)) rfl ?_
  refine go_Skv ?_
  have hwz := sWaits_yes (K := jC q5.gj gd sj (cellsA (lsB ++ [5 :: rcLife q5.life])) :: dB gd md 10000 :: dM md [f5] ck5 :: dS [f5] :: blk g2 34 ta0.c :: blk g3 38 rlA.c :: K) (g := g5) (t := ta0) (r := rlA) (lim := 9) (q := q5) (x := x) (by rw [hw5]; exact List.mem_singleton.2 rfl) (by rw [k9]; decide) (by rw [k10]; decide)
  rw [k7, k8, k9, k10] at hwz
  refine sl_call rfl rfl (by kernel_rfl) rfl (by exact sub_) hwz ?_
  clear hwz
  rintro ⟨⟨A5, c5⟩, ⟨A6, c6⟩⟩ -
  dsimp only
  refine go_Skv ?_
  refine sl_alloc rfl rfl rfl ?_; intro g6
  refine go_Skv ?_
  refine sl_call rfl rfl (by kernel_rfl) rfl (by exact sub_) (sLife_ok (g := g5) (gd := gd) (t := ta0) (r := rlA) (lim := 9) (q := q5) (n := cellsA (lsB ++ [5 :: rcLife q5.life])) (s := sj) (K := blk g6 49 (rpC idW 5 (.slice A5 ([] : List Int).length c5) (.slice A6 [(120 : Int)].length c6)) :: u8o A5 c5 [] :: u8o A6 c6 [120] :: jC q5.gj gd sj (cellsA (lsB ++ [5 :: rcLife q5.life])) :: dB gd md 10000 :: dM md [f5] ck5 :: dS [f5] :: blk g2 34 ta0.c :: blk g3 38 rlA.c :: K) (by exact at_)) ?_
  rintro _ -
  rw [hl5]
  refine go_Skv ?_
  refine sl_pu (pu_strv (Vw.of_own (A := A6) (c := c6) (e := 5) (by exact at_)) rfl rfl rfl rfl) rfl ?_
  refine go_Skv ?_
  exact se_ret1 () trivial rfl rfl (by exact sub_)
end Go.Proofs.YtocaabnbmcpjmaaGreat
