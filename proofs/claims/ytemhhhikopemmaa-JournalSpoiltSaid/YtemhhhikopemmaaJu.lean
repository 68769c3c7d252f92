/- A journal read whole: Scan's walk. -/
import Derived.Test.YtemhhhikopemmaaJs
namespace Go.Proofs.Ytemhhhikopemmaa
open Go.RowKit
attribute [local irreducible] Go.Calls Go.Exit.then Go.Exit.inBlock Go.bodyPost Go.Code.wp Go.wpList takeL recordL
/-- Records in memory: a row of slices, each with its bytes. -/
structure SRow where
  xs : List Sx
  R : Option Addr
  c : Nat
abbrev SRow.row (q : SRow) : Fa := own 23 1 q.R q.xs.length q.c (sxV q.xs)
abbrev SRow.st (q : SRow) : Fa := star (sxO q.xs)
def ScA (K : List Fa) (out : List (List Int)) (k : Nat) : Bool → Ending → World → Prop
  | true => Ret (fun _ : Unit => True) (fun _ => .tuple #[.slice none 0 0, .int .i64 0, .int .i64 23]) (fun _ => K)
  | false => Ret (fun q : SRow => q.xs.map Sx.l = out ∧ ∀ x ∈ q.xs, x.ok) (fun q => .tuple #[.slice q.R q.xs.length q.c, .int .i64 k, .int .i64 0]) (fun q => q.row :: q.st :: K)
theorem ScA_no {K : List Fa} {out : List (List Int)} {k : Nat} : ScA K out k true = Ret (fun _ : Unit => True) (fun _ => .tuple #[.slice none 0 0, .int .i64 0, .int .i64 23]) (fun _ => K) := rfl
theorem ScA_yes {K : List Fa} {out : List (List Int)} {k : Nat} : ScA K out k false = Ret (fun q : SRow => q.xs.map Sx.l = out ∧ ∀ x ∈ q.xs, x.ok) (fun q => .tuple #[.slice q.R q.xs.length q.c, .int .i64 k, .int .i64 0]) (fun q => q.row :: q.st :: K) := rfl
theorem halt_mono {bs : List Int} {a k : Nat} (h : haltB bs a k = true) : ∀ j, haltB bs a (k + j) = true
  | 0 => h
  | j + 1 => by rw [← Nat.add_assoc, haltB, halt_mono h j, Bool.true_or]
theorem sl1_one {A : Option Addr} {n c : Nat} : ∀ u ∈ [Value.slice A n c], u.oneCell' = true := by
  intro u hu
  rw [List.mem_singleton] at hu
  subst hu
  rfl
theorem nth_Ju {φ : Prop} (h : φ := by (first | rfl | rfl)) : φ := h
theorem mid_Ju {φ : Prop} (h : φ := by (first | exact Mid.all | exact Mid.all | exact Mid.head)) : φ := h
theorem sz_Ju {φ : Prop} (h : φ := by (first | rfl | (rfl; first | done | fail))) : φ := h
theorem one_Ju {φ : Prop} (h : φ := by (first | assumption | exact first | exact jc_one | exact jz_one | exact one_bytes _ | exact sl1_one | (simp only [List.mem_cons, List.not_mem_nil, or_false, forall_eq_or_imp, forall_eq]; decide) | exact one_bytes _)) : φ := h
theorem set_Ju {φ : Prop} (h : φ := by (first | (fail) | ((repeat (first | exact SetAt.here | apply SetAt.there)); first | done | fail))) : φ := h
theorem cl_Ju {φ : Prop} (h : φ := by first | rfl | exact .t | exact .f | exact .t (by omega) | exact .f (by omega) | exact .u | exact .i (by (first | exact .t (by omega) | exact .f (by omega) | exact .u | exact .i (by omega) | exact .v (by omega) | exact .b (by omega) | exact .w | rfl | omega)) | exact .v (by omega) | exact .b (by omega) | exact .q (by omega) | exact .w | exact .b (by exact at_) rfl (by exact nth_Ju) | exact .w (by exact at_) rfl rfl (by exact sz_Ju) | exact .s (by exact at_) (by exact mid_Ju) rfl rfl (by exact sz_Ju) | exact .z rfl rfl ⟨by kernel_rfl⟩ | exact .b rfl rfl ⟨by kernel_rfl⟩ | exact .a rfl rfl ⟨by kernel_rfl⟩ | exact .o rfl | exact .s | exact .n | exact .p rfl | exact .q rfl | exact .c rfl | exact .d rfl | exact .n rfl rfl (by omega) | exact .a rfl rfl (by omega) | exact .p rfl rfl (by omega) (by omega) | exact .y rfl rfl (by omega) (by omega) | exact .o (by exact at_) (by omega) rfl (by exact nth_Ju) | exact .m (by exact at_) (by omega) (by exact mid_Ju) rfl rfl (by exact sz_Ju) | exact .mlen (by exact at_) rfl | exact .t (by exact at_) rfl rfl (by first | exact True.intro | rfl) (by assumption) | exact .f (by exact at_) rfl rfl (by first | exact True.intro | rfl) (by assumption) rfl | exact .t1 (by exact at_) rfl rfl (by first | exact True.intro | rfl) (by assumption) | exact .f1 (by exact at_) rfl rfl (by first | exact True.intro | rfl) (by assumption) rfl | exact .r rfl rfl (by omega) (by omega) (by exact nth_Ju) rfl | exact .s rfl (by omega) (by assumption) | exact at_ | assumption | exact .r rfl rfl | exact .h rfl rfl rfl (by omega) | exact .l rfl rfl rfl (by omega) (by omega) | exact .g rfl rfl rfl rfl (by omega) (by omega) | exact .h rfl rfl (toN_ (by omega)) (by omega) | exact .l rfl rfl (toN_ (by omega)) (by omega) (by omega) | exact .g rfl rfl (toN_ (by omega)) (toN_ (by omega)) (by omega) (by omega) | exact .o (by decide) | exact .f (by decide) | exact .n (by omega) (by first | decide | (show _ ≤ ((64 : Nat) : Int); omega)) | (constructor; (repeat (first | exact .t (by omega) | exact .f (by omega) | exact .u | exact .i (by omega) | exact .v (by omega) | exact .b (by omega) | exact .w | rfl | omega)); first | done | fail) | omega | (show _ ≤ ((64 : Nat) : Int); omega)) : φ := h
theorem pv_Ju {φ : Prop} (h : φ := by constructor; (repeat exact cl_Ju); first | done | fail) : φ := h
theorem su_Ju {φ ψ : Prop} (k : ψ) (h : Hide ψ → φ := by (intro k; (first | refine sl_pu (PuI.sep (by exact pv_Ju)) rfl ?_ | refine sl_yes rfl rfl ?_ | refine sl_no rfl rfl rfl ?_ | refine sl_off rfl rfl rfl ?_ | (fail)); exact k.out)) : φ := h ⟨k⟩
theorem rq_Ju {φ ψ : Prop} (k : ψ) (h : Hide ψ → φ := by (intro k; (first | refine wq_pu (PuI.sep (by exact pv_Ju)) rfl ?_ | refine wq_yes rfl rfl ?_ | refine wq_no rfl rfl rfl ?_ | refine wq_off rfl rfl rfl ?_ | (fail)); exact k.out)) : φ := h ⟨k⟩
theorem sto_Ju {φ ψ : Prop} (k : ψ) (h : Hide ψ → φ := by (intro k; (first | refine sl_store rfl (by exact pick_) rfl rfl (by kernel_rfl) (by exact set_Ju) ?_ | refine sl_store_whole rfl (by exact pick_) rfl (by exact sz_Ju) (by exact sz_Ju) (by exact one_Ju) ?_); exact k.out)) : φ := h ⟨k⟩
theorem go_Ju {φ ψ : Prop} (k : ψ) (h : Hide ψ → φ := by (intro k; (repeat (first | refine su_Ju ?_ | refine so_ ?_ | refine sto_Ju ?_)); exact k.out)) : φ := h ⟨k⟩
theorem sub_row0 {K : List Fa} : Sub K ((⟨[], none, 0⟩ : SRow).row :: (⟨[], none, 0⟩ : SRow).st :: K) := by
  show Sub K (own 23 1 none 0 0 [] :: star [] :: K)
  exact Sub.own_nil (Sub.free (fun w => by unfold star; exact (Sep.start w).sub Sub.nil) (fun k hk => by unfold star at hk; exact foot_nil hk) Sub.refl)
structure Sg where
  q : SRow
  k : Nat
  j : Nat
set_option maxRecDepth 100000 in
set_option maxHeartbeats 4000000 in
theorem scan_ok {K : List Fa} {A : Option Addr} {n c j0 k0 : Nat} {bs : List Int} {out0 : List (List Int)} (h : Rd K A n c bs) (hn : n ≤ 100000000000) (hc0 : chainL bs j0 = some (k0, out0)) (he0 : recordL bs k0 = none) :
    Fn Try.prog 15 #[.slice A n c] K (ScA K out0 k0 (haltB bs k0 (cutN bs - k0))) := by
  refine fn_enter Try.func15 rfl _ Try.ntmps15 (by simp) [(0, .slice A n c)] (args_of (by simp)) ?_
  have hle := h.le
  have hlen := h.len
  refine go_Ju ?_
  refine sc_bjoin (fun q : Sg => [(0, .slice A n c), (5, .slice q.q.R q.q.xs.length q.q.c), (6, .int .i64 k0)]) (fun q => q.q.row :: q.q.st :: K) (fun q => q.q.xs.map Sx.l = out0 ∧ (∀ x ∈ q.q.xs, x.ok) ∧ k0 * 64 ≤ n) ?_ ?_
  · refine sc_for (fun q : Sg => [(0, .slice A n c), (5, .slice q.q.R q.q.xs.length q.q.c), (6, .int .i64 q.k)]) (fun q => q.q.row :: q.q.st :: K) (fun q => chainL bs q.j = some (q.k, q.q.xs.map Sx.l) ∧ (∀ x ∈ q.q.xs, x.ok) ∧ q.k * 64 ≤ n ∧ q.q.xs.length ≤ q.k) (fun q => n - q.k) ⟨⟨[], none, 0⟩, 0, 0⟩ (by exact has_) sub_row0 ⟨rfl, (fun x hx => by cases hx), Nat.zero_le _, Nat.le_refl _⟩ ?_
    rintro ⟨⟨xs, R, cr⟩, k, j⟩ ⟨hch, hok, hk, hx⟩
    replace hch : chainL bs j = some (k, xs.map Sx.l) := hch
    replace hk : k * 64 ≤ n := hk
    replace hx : xs.length ≤ k := hx
    replace hok : ∀ x ∈ xs, x.ok := hok
    dsimp only [SRow.row, SRow.st]
    have hrc := record_ok (h.mono (Z' := own 23 1 R xs.length cr (sxV xs) :: star (sxO xs) :: K) (by exact sub_)) (k := k) (by omega)
    refine go_Ju ?_
    cases hr : recordL bs k with
    | none =>
      obtain ⟨e1, e2⟩ := chain_end hch hr hc0 he0
      subst e1
      rw [hr, RcA_no] at hrc
      refine sl_call rfl rfl (by kernel_rfl) rfl (by exact sub_) hrc ?_
      rintro _ -
      refine go_Ju ?_
      exact se_mid ⟨⟨xs, R, cr⟩, k, j⟩ (by exact has_) (by exact sub_) ⟨e2, hok, hk⟩
    | some xm =>
      obtain ⟨x, m⟩ := xm
      obtain ⟨m1, m2, m3, m4, m5⟩ := recordL_some hr h.okb
      rw [hlen] at m3
      rw [hr, RcA_yes] at hrc
      refine sl_call rfl rfl (by kernel_rfl) rfl (by exact sub_) hrc ?_
      rintro ⟨P, cp, dp⟩ hcp
      replace hcp : x.length ≤ cp ∧ cp ≤ maxLen := hcp
      dsimp only
      refine go_Ju ?_
      refine sl_build (size := 1) (e := 23) (cells := [.slice P x.length cp]) rfl (fun W => by kernel_rfl) rfl (by decide) rfl ?_
      intro gb
      refine sl_app (z := .slice none 0 0) (size := 1) (bytes := 24) rfl (by exact pick_) rfl (Vw.of_own (e := 23) (c := 1) (A := some ⟨gb, 0, none⟩) (by exact at_)) sl1_one rfl (by kernel_rfl) (by decide) (by decide) rfl (by unfold maxLen; omega) (by omega) ?_
      intro R2 cr2
      refine go_Ju ?_
      have e3 : sxV xs ++ [Value.slice P x.length cp] = sxV (xs ++ [⟨P, cp, dp, x⟩]) := by simp [sxV, Sx.v]
      have e4 : sxO xs ++ [u8o P dp x] = sxO (xs ++ [⟨P, cp, dp, x⟩]) := by simp [sxO, Sx.fa]
      have e5 : xs.length + 1 = (xs ++ [(⟨P, cp, dp, x⟩ : Sx)]).length := by simp
      rw [e3, e5]
      refine se_ent (fun w hw => star_snoc (f := u8o P dp x) (G := sxO xs) (K := own 23 1 R2 (xs ++ [(⟨P, cp, dp, x⟩ : Sx)]).length cr2 (sxV (xs ++ [⟨P, cp, dp, x⟩])) :: K) w (hw.sub (by exact sub_))) ?_
      rw [e4]
      refine se_round ⟨⟨xs ++ [⟨P, cp, dp, x⟩], R2, cr2⟩, k + m, j + 1⟩ (by exact has_) (by exact sub_) ⟨?_, ?_, by show (k + m) * 64 ≤ n; exact m3, by show (xs ++ [(⟨P, cp, dp, x⟩ : Sx)]).length ≤ k + m; simp; omega⟩ (by show n - (k + m) < n - k; omega)
      · show chainL bs (j + 1) = some (k + m, (xs ++ [(⟨P, cp, dp, x⟩ : Sx)]).map Sx.l)
        rw [chainL, hch]
        simp only [hr, List.map_append, List.map_cons, List.map_nil]
      · intro y hy
        rcases List.mem_append.1 hy with hy | hy
        · exact hok y hy
        · rw [List.mem_singleton] at hy
          subst hy
          exact ⟨hcp, by show x.length ≤ 1000000; omega, m5⟩
  rintro ⟨⟨xs, R, cr⟩, kk, jj⟩ ⟨hout, hok, hk⟩
  replace hk : k0 * 64 ≤ n := hk
  replace hok : ∀ x ∈ xs, x.ok := hok
  dsimp only [SRow.row, SRow.st]
  have hcut : cutN bs = (n + 63) / 64 := by unfold cutN; rw [hlen]
  obtain ⟨N, hN⟩ : ∃ N, cutN bs - k0 = N := ⟨_, rfl⟩
  rw [hN]
  have hN2 : cutN bs = k0 + N := by omega
  refine go_Ju ?_
  refine sc_bjoin (fun _ : Unit => [(5, .slice R xs.length cr), (6, .int .i64 k0)]) (fun _ => own 23 1 R xs.length cr (sxV xs) :: star (sxO xs) :: K) (fun _ => haltB bs k0 N = false) ?_ ?_
  · refine sc_for (fun i : Nat => [(0, .slice A n c), (5, .slice R xs.length cr), (6, .int .i64 k0), (10, .bool (tornB bs k0 i)), (11, .int .i64 ((k0 + i : Nat) : Int))]) (fun _ => own 23 1 R xs.length cr (sxV xs) :: star (sxO xs) :: K) (fun i => i ≤ N ∧ haltB bs k0 i = false) (fun i => N - i) 0 (by exact has_) (by exact sub_) ⟨Nat.zero_le _, rfl⟩ ?_
    rintro i ⟨hi, hno⟩
    by_cases hlt : i < N
    · have htk := take_ok (h.mono (Z' := own 23 1 R xs.length cr (sxV xs) :: star (sxO xs) :: K) (by exact sub_)) (k := k0 + i) (by omega)
      obtain ⟨tb, hT⟩ : ∃ tb, tornB bs k0 i = tb := ⟨_, rfl⟩
      rw [hT]
      refine go_Ju ?_
      cases ht : takeL bs (k0 + i) with
      | none =>
        have e1 : tornB bs k0 (i + 1) = true := by rw [tornB, ht]; simp
        have e2 : haltB bs k0 (i + 1) = false := by rw [haltB, hno, ht]; rfl
        rw [ht, TkA_no] at htk
        refine sl_call rfl rfl (by kernel_rfl) rfl (by exact sub_) htk ?_
        rintro _ -
        cases tb with
        | true =>
          refine go_Ju ?_
          refine sl_alloc rfl rfl rfl ?_; intro g12
          refine go_Ju ?_
          exact se_round (i + 1) (by rw [e1]; exact has_) (by exact sub_) ⟨hlt, e2⟩ (by omega)
        | false =>
          refine go_Ju ?_
          refine sl_alloc rfl rfl rfl ?_; intro g12
          refine go_Ju ?_
          exact se_round (i + 1) (by rw [e1]; exact has_) (by exact sub_) ⟨hlt, e2⟩ (by omega)
      | some fp =>
        obtain ⟨f, p⟩ := fp
        rw [ht, TkA_yes] at htk
        refine sl_call rfl rfl (by kernel_rfl) rfl (by exact sub_) htk ?_
        rintro ⟨P, cp⟩ -
        cases tb with
        | true =>
          have e2 : haltB bs k0 (i + 1) = true := by rw [haltB, hno, ht, hT]; rfl
          have e3 := halt_mono e2 (N - (i + 1))
          rw [show i + 1 + (N - (i + 1)) = N by omega] at e3
          rw [e3, ScA_no]
          refine go_Ju ?_
          refine sl_alloc rfl rfl rfl ?_; intro g12
          refine go_Ju ?_
          exact se_ret3 () trivial rfl rfl rfl rfl rfl (by exact sub_)
        | false =>
          have e1 : tornB bs k0 (i + 1) = false := by rw [tornB, ht, hT]; rfl
          have e2 : haltB bs k0 (i + 1) = false := by rw [haltB, hno, ht, hT]; rfl
          refine go_Ju ?_
          refine sl_alloc rfl rfl rfl ?_; intro g12
          refine go_Ju ?_
          exact se_round (i + 1) (by rw [e1]; exact has_) (by exact sub_) ⟨hlt, e2⟩ (by omega)
    · obtain rfl : i = N := by omega
      refine go_Ju ?_
      exact se_mid () (by exact has_) (by exact sub_) hno
  rintro _ hno
  rw [hno, ScA_yes]
  refine go_Ju ?_
  exact se_ret3 ⟨xs, R, cr⟩ ⟨hout, hok⟩ rfl rfl rfl rfl rfl (by exact sub_)
end Go.Proofs.Ytemhhhikopemmaa
