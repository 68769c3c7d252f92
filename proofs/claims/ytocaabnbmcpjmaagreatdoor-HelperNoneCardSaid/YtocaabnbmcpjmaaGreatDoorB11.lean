/- Several texts of one claim, one behind the other (Ju, Jl, Jm, Jn, Jo, Jq, Jw, Dk, Dk2, Dk5). -/
import Derived.Test.YtocaabnbmcpjmaaGreatDoorB10
import Derived.Test.YtocaabnbmcpjmaaGreatDoorB01
import Derived.Test.YtocaabnbmcpjmaaGreatDoorB09
import Derived.Test.YtocaabnbmcpjmaaGreatDoorB05
set_option linter.unusedVariables false
set_option linter.unusedSimpArgs false
/- A journal read whole: Scan's walk. -/
namespace Go.Proofs.YtocaabnbmcpjmaaGreatDoor
open Go.RowKit
attribute [local irreducible] Go.Calls Go.Exit.then Go.Exit.inBlock Go.bodyPost Go.Code.wp Go.wpList takeL recordL
/-- Records in memory: a row of slices, each with its bytes. -/
structure SRow where
  xs : List Sx
  R : Option Addr
  c : Nat
abbrev SRow.row (q : SRow) : Fa := own 60 1 q.R q.xs.length q.c (sxV q.xs)
abbrev SRow.st (q : SRow) : Fa := star (sxO q.xs)
def ScA (K : List Fa) (out : List (List Int)) (k : Nat) : Bool → Ending → World → Prop
  | true => Ret (fun _ : Unit => True) (fun _ => .tuple #[.slice none 0 0, .int .i64 0, .int .i64 23]) (fun _ => K)
  | false => Ret (fun q : SRow => q.xs.map Sx.l = out ∧ ∀ x ∈ q.xs, x.ok) (fun q => .tuple #[.slice q.R q.xs.length q.c, .int .i64 k, .int .i64 0]) (fun q => q.row :: q.st :: K)
theorem ScA_no {K : List Fa} {out : List (List Int)} {k : Nat} : ScA K out k true = Ret (fun _ : Unit => True) (fun _ => .tuple #[.slice none 0 0, .int .i64 0, .int .i64 23]) (fun _ => K) := rfl
theorem ScA_yes {K : List Fa} {out : List (List Int)} {k : Nat} : ScA K out k false = Ret (fun q : SRow => q.xs.map Sx.l = out ∧ ∀ x ∈ q.xs, x.ok) (fun q => .tuple #[.slice q.R q.xs.length q.c, .int .i64 k, .int .i64 0]) (fun q => q.row :: q.st :: K) := rfl
theorem halt_mono {bs : List Int} {a k : Nat} (h : haltB bs a k = true) : ∀ j, haltB bs a (k + j) = true
  | 0 => h
  | j + 1 => by rw [← Nat.add_assoc, haltB, halt_mono h j, Bool.true_or]
theorem sl1_one {A : Option Addr} {n c : Nat} : ∀ u ∈ [Value.slice A n c], u.oneCell' = true := by
  intro u hu
  rw [List.mem_singleton] at hu
  subst hu
  rfl
theorem nth_Ju {φ : Prop} (h : φ := by (first | rfl | rfl)) : φ := h
theorem mid_Ju {φ : Prop} (h : φ := by (first | exact Mid.all | exact Mid.all | exact Mid.head)) : φ := h
theorem sz_Ju {φ : Prop} (h : φ := by (first | rfl | (rfl; first | done | fail))) : φ := h
theorem one_Ju {φ : Prop} (h : φ := by (first | assumption | exact first | exact jc_one | exact jz_one | exact one_bytes _ | exact sl1_one | (simp only [List.mem_cons, List.not_mem_nil, or_false, forall_eq_or_imp, forall_eq]; decide) | exact one_bytes _ | (intro v hv; (repeat (rcases List.mem_cons.1 hv with rfl | hv; rfl)); cases hv))) : φ := h
theorem set_Ju {φ : Prop} (h : φ := by (first | (fail) | ((repeat (first | exact SetAt.here | apply SetAt.there)); first | done | fail))) : φ := h
theorem cl_Ju {φ : Prop} (h : φ := by first | rfl | exact .t | exact .f | exact .t (by omega) | exact .f (by omega) | exact .u | exact .i (by (first | exact .t (by omega) | exact .f (by omega) | exact .u | exact .i (by omega) | exact .v (by omega) | exact .b (by omega) | exact .w | rfl | omega)) | exact .v (by omega) | exact .b (by omega) | exact .q (by omega) | exact .w | exact .b (by exact at_) rfl (by exact nth_Ju) | exact .w (by exact at_) rfl rfl (by exact sz_Ju) | exact .s (by exact at_) (by exact mid_Ju) rfl rfl (by exact sz_Ju) | exact .z rfl rfl ⟨by kernel_rfl⟩ | exact .b rfl rfl ⟨by kernel_rfl⟩ | exact .a rfl rfl ⟨by kernel_rfl⟩ | exact .o rfl | exact .s | exact .n | exact .p rfl | exact .q rfl | exact .c rfl | exact .d rfl | exact .n rfl rfl (by omega) | exact .a rfl rfl (by omega) | exact .p rfl rfl (by omega) (by omega) | exact .y rfl rfl (by omega) (by omega) | exact .o (by exact at_) (by omega) rfl (by exact nth_Ju) | exact .m (by exact at_) (by omega) (by exact mid_Ju) rfl rfl (by exact sz_Ju) | exact .mlen (by exact at_) rfl | exact .t (by exact at_) rfl rfl (by first | exact True.intro | rfl) (by assumption) | exact .f (by exact at_) rfl rfl (by first | exact True.intro | rfl) (by assumption) rfl | exact .t1 (by exact at_) rfl rfl (by first | exact True.intro | rfl) (by assumption) | exact .f1 (by exact at_) rfl rfl (by first | exact True.intro | rfl) (by assumption) rfl | exact .tk (by exact at_) rfl (by assumption) (by assumption) | exact .fk (by exact at_) rfl (by assumption) (by assumption) rfl | exact .tk1 (by exact at_) rfl (by assumption) (by assumption) | exact .fk1 (by exact at_) rfl (by assumption) (by assumption) rfl | exact .r rfl rfl (by omega) (by omega) (by exact nth_Ju) rfl | exact .s rfl (by omega) (by assumption) | exact at_ | assumption | exact .r rfl rfl | exact .h rfl rfl rfl (by omega) | exact .l rfl rfl rfl (by omega) (by omega) | exact .g rfl rfl rfl rfl (by omega) (by omega) | exact .h rfl rfl (toN_ (by omega)) (by omega) | exact .l rfl rfl (toN_ (by omega)) (by omega) (by omega) | exact .g rfl rfl (toN_ (by omega)) (toN_ (by omega)) (by omega) (by omega) | exact .o (by decide) | exact .f (by decide) | exact .n (by omega) (by first | decide | (show _ ≤ ((64 : Nat) : Int); omega)) | (constructor; (repeat (first | exact .t (by omega) | exact .f (by omega) | exact .u | exact .i (by omega) | exact .v (by omega) | exact .b (by omega) | exact .w | rfl | omega)); first | done | fail) | omega | (show _ ≤ ((64 : Nat) : Int); omega)) : φ := h
theorem pv_Ju {φ : Prop} (h : φ := by constructor; (repeat exact cl_Ju); first | done | fail) : φ := h
theorem su_Ju {φ ψ : Prop} (k : ψ) (h : Hide ψ → φ := by (intro k; (first | refine sl_pu (PuI.sep (by exact pv_Ju)) rfl ?_ | refine sl_yes rfl rfl ?_ | refine sl_no rfl rfl rfl ?_ | refine sl_off rfl rfl rfl ?_ | (fail)); exact k.out)) : φ := h ⟨k⟩
theorem sto_Ju {φ ψ : Prop} (k : ψ) (h : Hide ψ → φ := by (intro k; (first | refine sl_store rfl (by exact pick_) rfl rfl (by kernel_rfl) (by exact set_Ju) ?_ | refine sl_store_whole rfl (by exact pick_) rfl (by exact sz_Ju) (by exact sz_Ju) (by exact one_Ju) ?_); exact k.out)) : φ := h ⟨k⟩
theorem go_Ju {φ ψ : Prop} (k : ψ) (h : Hide ψ → φ := by (intro k; (repeat (first | refine su_Ju ?_ | refine so_ ?_ | refine sto_Ju ?_)); exact k.out)) : φ := h ⟨k⟩
theorem sub_row0 {K : List Fa} : Sub K ((⟨[], none, 0⟩ : SRow).row :: (⟨[], none, 0⟩ : SRow).st :: K) := by
  show Sub K (own 60 1 none 0 0 [] :: star [] :: K)
  exact Sub.own_nil (Sub.free (fun w => by unfold star; exact (Sep.start w).sub Sub.nil) (fun k hk => by unfold star at hk; exact foot_nil hk) Sub.refl)
structure Sg where
  q : SRow
  k : Nat
  j : Nat
set_option maxRecDepth 100000 in
set_option maxHeartbeats 4000000 in
theorem scan_ok {K : List Fa} {A : Option Addr} {n c j0 k0 : Nat} {bs : List Int} {out0 : List (List Int)} (h : Rd K A n c bs) (hn : n ≤ 100000000000) (hc0 : chainL bs j0 = some (k0, out0)) (he0 : recordL bs k0 = none) :
    Fn Tryz.prog 39 #[.slice A n c] K (ScA K out0 k0 (haltB bs k0 (cutN bs - k0))) := by
  refine fn_enter Tryz.func39 rfl _ Tryz.ntmps39 (by simp) [(0, .slice A n c)] (args_of (by simp)) ?_
  have hle := h.le
  have hlen := h.len
  refine go_Ju ?_
  refine sc_bjoin (fun q : Sg => [(0, .slice A n c), (5, .slice q.q.R q.q.xs.length q.q.c), (6, .int .i64 k0)]) (fun q => q.q.row :: q.q.st :: K) (fun q => q.q.xs.map Sx.l = out0 ∧ (∀ x ∈ q.q.xs, x.ok) ∧ k0 * 64 ≤ n) ?_ ?_
  · refine sc_for (fun q : Sg => [(0, .slice A n c), (5, .slice q.q.R q.q.xs.length q.q.c), (6, .int .i64 q.k)]) (fun q => q.q.row :: q.q.st :: K) (fun q => chainL bs q.j = some (q.k, q.q.xs.map Sx.l) ∧ (∀ x ∈ q.q.xs, x.ok) ∧ q.k * 64 ≤ n ∧ q.q.xs.length ≤ q.k) (fun q => n - q.k) ⟨⟨[], none, 0⟩, 0, 0⟩ (by exact has_) sub_row0 ⟨rfl, (fun x hx => by cases hx), Nat.zero_le _, Nat.le_refl _⟩ ?_
    rintro ⟨⟨xs, R, cr⟩, k, j⟩ ⟨hch, hok, hk, hx⟩
    replace hch : chainL bs j = some (k, xs.map Sx.l) := hch
    replace hk : k * 64 ≤ n := hk
    replace hx : xs.length ≤ k := hx
    replace hok : ∀ x ∈ xs, x.ok := hok
    dsimp only [SRow.row, SRow.st]
    have hrc := record_ok (h.mono (Z' := own 60 1 R xs.length cr (sxV xs) :: star (sxO xs) :: K) (by exact sub_)) (k := k) (by omega)
    refine go_Ju ?_
    cases hr : recordL bs k with
    | none =>
      obtain ⟨e1, e2⟩ := chain_end hch hr hc0 he0
      subst e1
      rw [hr, RcA_no] at hrc
      refine sl_call rfl rfl (by kernel_rfl) rfl (by exact sub_) hrc ?_
      rintro _ -
      refine go_Ju ?_
      exact se_mid ⟨⟨xs, R, cr⟩, k, j⟩ (by exact has_) (by exact sub_) ⟨e2, hok, hk⟩
    | some xm =>
      obtain ⟨x, m⟩ := xm
      obtain ⟨m1, m2, m3, m4, m5⟩ := recordL_some hr h.okb
      rw [hlen] at m3
      rw [hr, RcA_yes] at hrc
      refine sl_call rfl rfl (by kernel_rfl) rfl (by exact sub_) hrc ?_
      rintro ⟨P, cp, dp⟩ hcp
      replace hcp : x.length ≤ cp ∧ cp ≤ maxLen := hcp
      dsimp only
      refine go_Ju ?_
      refine sl_build (size := 1) (e := 60) (cells := [.slice P x.length cp]) rfl (fun W => by kernel_rfl) rfl (by decide) rfl ?_
      intro gb
      refine sl_app (z := .slice none 0 0) (size := 1) (bytes := 24) rfl (by exact pick_) rfl (Vw.of_own (e := 60) (c := 1) (A := some ⟨gb, 0, none⟩) (by exact at_)) sl1_one rfl (by kernel_rfl) (by decide) (by decide) rfl (by unfold maxLen; omega) (by omega) ?_
      intro R2 cr2
      refine go_Ju ?_
      have e3 : sxV xs ++ [Value.slice P x.length cp] = sxV (xs ++ [⟨P, cp, dp, x⟩]) := by simp [sxV, Sx.v]
      have e4 : sxO xs ++ [u8o P dp x] = sxO (xs ++ [⟨P, cp, dp, x⟩]) := by simp [sxO, Sx.fa]
      have e5 : xs.length + 1 = (xs ++ [(⟨P, cp, dp, x⟩ : Sx)]).length := by simp
      rw [e3, e5]
      refine se_ent (fun w hw => star_snoc (f := u8o P dp x) (G := sxO xs) (K := own 60 1 R2 (xs ++ [(⟨P, cp, dp, x⟩ : Sx)]).length cr2 (sxV (xs ++ [⟨P, cp, dp, x⟩])) :: K) w (hw.sub (by exact sub_))) ?_
      rw [e4]
      refine se_round ⟨⟨xs ++ [⟨P, cp, dp, x⟩], R2, cr2⟩, k + m, j + 1⟩ (by exact has_) (by exact sub_) ⟨?_, ?_, by show (k + m) * 64 ≤ n; exact m3, by show (xs ++ [(⟨P, cp, dp, x⟩ : Sx)]).length ≤ k + m; simp; omega⟩ (by show n - (k + m) < n - k; omega)
      · show chainL bs (j + 1) = some (k + m, (xs ++ [(⟨P, cp, dp, x⟩ : Sx)]).map Sx.l)
        rw [chainL, hch]
        simp only [hr, List.map_append, List.map_cons, List.map_nil]
      · intro y hy
        rcases List.mem_append.1 hy with hy | hy
        · exact hok y hy
        · rw [List.mem_singleton] at hy
          subst hy
          exact ⟨hcp, by show x.length ≤ 1000000; omega, m5⟩
  rintro ⟨⟨xs, R, cr⟩, kk, jj⟩ ⟨hout, hok, hk⟩
  replace hk : k0 * 64 ≤ n := hk
  replace hok : ∀ x ∈ xs, x.ok := hok
  dsimp only [SRow.row, SRow.st]
  have hcut : cutN bs = (n + 63) / 64 := by unfold cutN; rw [hlen]
  obtain ⟨N, hN⟩ : ∃ N, cutN bs - k0 = N := ⟨_, rfl⟩
  rw [hN]
  have hN2 : cutN bs = k0 + N := by omega
  refine go_Ju ?_
  refine sc_bjoin (fun _ : Unit => [(5, .slice R xs.length cr), (6, .int .i64 k0)]) (fun _ => own 60 1 R xs.length cr (sxV xs) :: star (sxO xs) :: K) (fun _ => haltB bs k0 N = false) ?_ ?_
  · refine sc_for (fun i : Nat => [(0, .slice A n c), (5, .slice R xs.length cr), (6, .int .i64 k0), (10, .bool (tornB bs k0 i)), (11, .int .i64 ((k0 + i : Nat) : Int))]) (fun _ => own 60 1 R xs.length cr (sxV xs) :: star (sxO xs) :: K) (fun i => i ≤ N ∧ haltB bs k0 i = false) (fun i => N - i) 0 (by exact has_) (by exact sub_) ⟨Nat.zero_le _, rfl⟩ ?_
    rintro i ⟨hi, hno⟩
    by_cases hlt : i < N
    · have htk := take_ok (h.mono (Z' := own 60 1 R xs.length cr (sxV xs) :: star (sxO xs) :: K) (by exact sub_)) (k := k0 + i) (by omega)
      obtain ⟨tb, hT⟩ : ∃ tb, tornB bs k0 i = tb := ⟨_, rfl⟩
      rw [hT]
      refine go_Ju ?_
      cases ht : takeL bs (k0 + i) with
      | none =>
        have e1 : tornB bs k0 (i + 1) = true := by rw [tornB, ht]; simp
        have e2 : haltB bs k0 (i + 1) = false := by rw [haltB, hno, ht]; rfl
        rw [ht, TkA_no] at htk
        refine sl_call rfl rfl (by kernel_rfl) rfl (by exact sub_) htk ?_
        rintro _ -
        cases tb with
        | true =>
          refine go_Ju ?_
          refine sl_alloc rfl rfl rfl ?_; intro g12
          refine go_Ju ?_
          exact se_round (i + 1) (by rw [e1]; exact has_) (by exact sub_) ⟨hlt, e2⟩ (by omega)
        | false =>
          refine go_Ju ?_
          refine sl_alloc rfl rfl rfl ?_; intro g12
          refine go_Ju ?_
          exact se_round (i + 1) (by rw [e1]; exact has_) (by exact sub_) ⟨hlt, e2⟩ (by omega)
      | some fp =>
        obtain ⟨f, p⟩ := fp
        rw [ht, TkA_yes] at htk
        refine sl_call rfl rfl (by kernel_rfl) rfl (by exact sub_) htk ?_
        rintro ⟨P, cp⟩ -
        cases tb with
        | true =>
          have e2 : haltB bs k0 (i + 1) = true := by rw [haltB, hno, ht, hT]; rfl
          have e3 := halt_mono e2 (N - (i + 1))
          rw [show i + 1 + (N - (i + 1)) = N by omega] at e3
          rw [e3, ScA_no]
          refine go_Ju ?_
          refine sl_alloc rfl rfl rfl ?_; intro g12
          refine go_Ju ?_
          exact se_ret3 () trivial rfl rfl rfl rfl rfl (by exact sub_)
        | false =>
          have e1 : tornB bs k0 (i + 1) = false := by rw [tornB, ht, hT]; rfl
          have e2 : haltB bs k0 (i + 1) = false := by rw [haltB, hno, ht, hT]; rfl
          refine go_Ju ?_
          refine sl_alloc rfl rfl rfl ?_; intro g12
          refine go_Ju ?_
          exact se_round (i + 1) (by rw [e1]; exact has_) (by exact sub_) ⟨hlt, e2⟩ (by omega)
    · obtain rfl : i = N := by omega
      refine go_Ju ?_
      exact se_mid () (by exact has_) (by exact sub_) hno
  rintro _ hno
  rw [hno, ScA_yes]
  refine go_Ju ?_
  exact se_ret3 ⟨xs, R, cr⟩ ⟨hout, hok⟩ rfl rfl rfl rfl rfl (by exact sub_)
end Go.Proofs.YtocaabnbmcpjmaaGreatDoor
/- A record laid in cells: the program's lay and Lay. -/
namespace Go.Proofs.YtocaabnbmcpjmaaGreatDoor
open Go.RowKit
attribute [local irreducible] Go.Calls Go.Exit.then Go.Exit.inBlock Go.bodyPost Go.Code.wp Go.wpList takeL recordL
theorem zs_len {n : Nat} : (zs n).length = n := by simp [zs]
theorem zs_bytes {n : Nat} : IsBytes (zs n) := fun x hx => by
  have := List.eq_of_mem_replicate hx
  subst this
  exact ⟨by decide, by decide⟩
theorem made_u8 (n m : Nat) (h : m ≤ n) : ((madeCells (Value.int .u8 0).cells (n * 1)).toList.take (m * 1)) = bytes (zs m) := by
  rw [Nat.mul_one, Nat.mul_one]
  have h1 : (madeCells (Value.int .u8 0).cells n).toList = List.replicate n (Value.int .u8 0) := by
    apply List.ext_getElem?
    intro i
    by_cases hi : i < n
    · simp [madeCells, Value.cells, hi, Nat.mod_one]
    · simp [madeCells, Value.cells, hi]
  rw [h1, List.take_replicate, Nat.min_eq_left h]
  simp [bytes, zs]
theorem bodyL_len {number follow : Nat} {part : List Int} (h : part.length ≤ 48) : (bodyL number follow part).length = 56 := by
  simp only [bodyL, List.length_append, le_len, zs_len]
  omega
theorem bodyL_bytes {number follow : Nat} {part : List Int} (h : IsBytes part) : IsBytes (bodyL number follow part) :=
  ((((le_bytes _ _).app (le_bytes _ _)).app (le_bytes _ _)).app h).app zs_bytes
theorem cellL_len {number follow : Nat} {part : List Int} (h : part.length ≤ 48) : (cellL number follow part).length = 64 := by
  rw [cellL, List.length_append, (hashL_ok _ _ _).1, bodyL_len h]
theorem partL_len {bs : List Int} {i : Nat} : (partL bs i).length ≤ 48 := by rw [partL, List.length_take]; omega
theorem recF_len {number many : Nat} {bs : List Int} : ∀ {i : Nat}, (recF number many bs i).length = i * 64
  | 0 => rfl
  | i + 1 => by rw [recF, List.length_append, recF_len, cellL_len partL_len]; omega
attribute [local irreducible] hashL
theorem nth_Jl {φ : Prop} (h : φ := by (first | rfl | rfl)) : φ := h
theorem mid_Jl {φ : Prop} (h : φ := by (first | exact Mid.all | exact Mid.all | exact Mid.head)) : φ := h
theorem sz_Jl {φ : Prop} (h : φ := by (first | rfl | (rfl; first | done | fail))) : φ := h
theorem one_Jl {φ : Prop} (h : φ := by (first | assumption | exact one_bytes _ | (simp only [List.mem_cons, List.not_mem_nil, or_false, forall_eq_or_imp, forall_eq]; decide) | exact one_bytes _ | (intro v hv; (repeat (rcases List.mem_cons.1 hv with rfl | hv; rfl)); cases hv))) : φ := h
theorem set_Jl {φ : Prop} (h : φ := by (first | (fail) | ((repeat (first | exact SetAt.here | apply SetAt.there)); first | done | fail))) : φ := h
theorem cl_Jl {φ : Prop} (h : φ := by first | rfl | exact .t | exact .f | exact .t (by omega) | exact .f (by omega) | exact .u | exact .i (by (first | exact .t (by omega) | exact .f (by omega) | exact .u | exact .i (by omega) | exact .v (by omega) | exact .b (by omega) | exact .w | rfl | omega)) | exact .v (by omega) | exact .b (by omega) | exact .q (by omega) | exact .w | exact .b (by exact at_) rfl (by exact nth_Jl) | exact .w (by exact at_) rfl rfl (by exact sz_Jl) | exact .s (by exact at_) (by exact mid_Jl) rfl rfl (by exact sz_Jl) | exact .z rfl rfl ⟨by kernel_rfl⟩ | exact .b rfl rfl ⟨by kernel_rfl⟩ | exact .a rfl rfl ⟨by kernel_rfl⟩ | exact .o rfl | exact .s | exact .n | exact .p rfl | exact .q rfl | exact .c rfl | exact .d rfl | exact .n rfl rfl (by omega) | exact .a rfl rfl (by omega) | exact .p rfl rfl (by omega) (by omega) | exact .y rfl rfl (by omega) (by omega) | exact .o (by exact at_) (by omega) rfl (by exact nth_Jl) | exact .m (by exact at_) (by omega) (by exact mid_Jl) rfl rfl (by exact sz_Jl) | exact .mlen (by exact at_) rfl | exact .t (by exact at_) rfl rfl (by first | exact True.intro | rfl) (by assumption) | exact .f (by exact at_) rfl rfl (by first | exact True.intro | rfl) (by assumption) rfl | exact .t1 (by exact at_) rfl rfl (by first | exact True.intro | rfl) (by assumption) | exact .f1 (by exact at_) rfl rfl (by first | exact True.intro | rfl) (by assumption) rfl | exact .tk (by exact at_) rfl (by assumption) (by assumption) | exact .fk (by exact at_) rfl (by assumption) (by assumption) rfl | exact .tk1 (by exact at_) rfl (by assumption) (by assumption) | exact .fk1 (by exact at_) rfl (by assumption) (by assumption) rfl | exact .r rfl rfl (by omega) (by omega) (by exact nth_Jl) rfl | exact .s rfl (by omega) (by assumption) | exact at_ | assumption | exact .r rfl rfl | exact .h rfl rfl rfl (by omega) | exact .l rfl rfl rfl (by omega) (by omega) | exact .g rfl rfl rfl rfl (by omega) (by omega) | exact .h rfl rfl (toN_ (by omega)) (by omega) | exact .l rfl rfl (toN_ (by omega)) (by omega) (by omega) | exact .g rfl rfl (toN_ (by omega)) (toN_ (by omega)) (by omega) (by omega) | exact .o (by decide) | exact .f (by decide) | exact .n (by omega) (by first | decide | (show _ ≤ ((64 : Nat) : Int); omega)) | (constructor; (repeat (first | exact .t (by omega) | exact .f (by omega) | exact .u | exact .i (by omega) | exact .v (by omega) | exact .b (by omega) | exact .w | rfl | omega)); first | done | fail) | omega | (show _ ≤ ((64 : Nat) : Int); omega)) : φ := h
theorem pv_Jl {φ : Prop} (h : φ := by constructor; (repeat exact cl_Jl); first | done | fail) : φ := h
theorem su_Jl {φ ψ : Prop} (k : ψ) (h : Hide ψ → φ := by (intro k; (first | refine sl_pu (PuI.sep (by exact pv_Jl)) rfl ?_ | refine sl_yes rfl rfl ?_ | refine sl_no rfl rfl rfl ?_ | refine sl_off rfl rfl rfl ?_ | (fail)); exact k.out)) : φ := h ⟨k⟩
theorem sto_Jl {φ ψ : Prop} (k : ψ) (h : Hide ψ → φ := by (intro k; (first | refine sl_store rfl (by exact pick_) rfl rfl (by kernel_rfl) (by exact set_Jl) ?_ | refine sl_store_whole rfl (by exact pick_) rfl (by exact sz_Jl) (by exact sz_Jl) (by exact one_Jl) ?_); exact k.out)) : φ := h ⟨k⟩
theorem go_Jl {φ ψ : Prop} (k : ψ) (h : Hide ψ → φ := by (intro k; (repeat (first | refine su_Jl ?_ | refine so_ ?_ | refine sto_Jl ?_)); exact k.out)) : φ := h ⟨k⟩
set_option maxRecDepth 100000 in
set_option maxHeartbeats 4000000 in
theorem layP_ok {K : List Fa} {A : Option Addr} {n c number follow : Nat} {part : List Int} (h : Rd K A n c part) (hn : n ≤ 48) (h1 : number < 16777216) (h2 : follow < 16777216) :
    Fn Tryz.prog 111 #[.int .u32 number, .int .u32 follow, .slice A n c] K (Ret (fun _ : Option Addr × Nat => True) (fun q => .slice q.1 64 q.2) (fun q => own 5 1 q.1 64 q.2 (bytes (cellL number follow part)) :: K)) := by
  refine fn_enter Tryz.func111 rfl _ Tryz.ntmps111 (by simp) [(0, .int .u32 number), (1, .int .u32 follow), (2, .slice A n c)] (args_of (by simp)) ?_
  have hle := h.le
  have hlen := h.len
  refine go_Jl ?_
  refine sl_alloc rfl rfl rfl ?_; intro b
  refine sl_sub (L' := wrb b none ([] : List Int).length 0 :: u8o none 0 [] :: K) (.cons .here (Sub.own_nil Sub.refl)) ?_
  refine go_Jl ?_
  refine sl_make (lo := .tmp 0) (i := default) (k := 8) (c := 8) (bytes := 1) (size := 1) (z := .int .u8 0) (e := 5) rfl rfl rfl (by kernel_rfl) (by decide) (by decide) (by decide) rfl ?_
  intro gz
  rw [made_u8 8 8 (by decide)]
  refine sl_call rfl rfl (by kernel_rfl) rfl (by exact sub_) (wRaw (K := own 5 1 (some ⟨gz, 0, none⟩) 8 8 (bytes (zs 8)) :: K) (bs := []) (xs := zs 8) (Vw.of_own (e := 5) .here) (by decide)) ?_
  rintro ⟨A1, c1⟩ -
  rw [List.nil_append]
  refine go_Jl ?_
  refine sl_call rfl rfl (by kernel_rfl) rfl (by exact sub_) (wUint (K := K) (n := number) (k := 3) (by decide) (by omega) (by omega) (by rw [zs_len]; decide)) ?_
  rintro ⟨A2, c2⟩ -
  refine go_Jl ?_
  refine sl_call rfl rfl (by kernel_rfl) rfl (by exact sub_) (wUint (K := K) (n := follow) (k := 3) (by decide) (by omega) (by omega) (by simp only [List.length_append, zs_len, le_len]; decide)) ?_
  rintro ⟨A3, c3⟩ -
  refine go_Jl ?_
  refine sl_call rfl rfl (by kernel_rfl) rfl (by exact sub_) (wUint (K := K) (n := (n : Int)) (k := 2) (by decide) (by omega) (by omega) (by simp only [List.length_append, zs_len, le_len]; decide)) ?_
  rintro ⟨A4, c4⟩ -
  refine go_Jl ?_
  refine sl_call rfl rfl (by kernel_rfl) rfl (by exact sub_) (wRaw (K := K) (xs := part) h.vw (by simp only [List.length_append, zs_len, le_len]; omega)) ?_
  rintro ⟨A5, c5⟩ -
  refine go_Jl ?_
  refine sl_make (lo := .tmp 0) (i := default) (k := 48 - n) (c := 48 - n) (bytes := 1) (size := 1) (z := .int .u8 0) (e := 5) (by show some (Value.int _ _) = some (Value.int _ _); congr 2; omega) (by show some (Value.int _ _) = some (Value.int _ _); congr 2; omega) rfl (by kernel_rfl) (Nat.le_refl _) (by omega) (by unfold maxLen; omega) rfl ?_
  intro gy
  rw [made_u8 (48 - n) (48 - n) (Nat.le_refl _)]
  refine sl_call rfl rfl (by kernel_rfl) rfl (by exact sub_) (wRaw (K := own 5 1 (some ⟨gy, 0, none⟩) (48 - n) (48 - n) (bytes (zs (48 - n))) :: K) (xs := zs (48 - n)) (Vw.of_own (e := 5) .here) (by simp only [List.length_append, zs_len, le_len]; omega)) ?_
  rintro ⟨A6, c6⟩ -
  have hw : zs 8 ++ le number 3 ++ le follow 3 ++ le n 2 ++ part ++ zs (48 - n) = zs 8 ++ bodyL number follow part := by rw [bodyL, hlen]; simp only [List.append_assoc]
  rw [hw]
  refine go_Jl ?_
  have hbl := bodyL_len (number := number) (follow := follow) (part := part) (by omega)
  have hll : (zs 8 ++ bodyL number follow part).length = 64 := by rw [List.length_append, zs_len, hbl]
  refine sl_call rfl rfl (by kernel_rfl) rfl (by exact sub_) (wBytes (K := K) (bs := zs 8 ++ bodyL number follow part) (by omega)) ?_
  rintro ⟨A7, c7⟩ -
  have hcell : cellL number follow part = hashL 9 (bodyL number follow part) 8 ++ bodyL number follow part := rfl
  have hdr : (zs 8 ++ bodyL number follow part).drop 8 = bodyL number follow part := List.drop_left' zs_len
  have hbb : IsBytes (zs 8 ++ bodyL number follow part) := zs_bytes.app (bodyL_bytes h.okb)
  generalize zs 8 ++ bodyL number follow part = ws at hll hdr hbb ⊢
  rw [← hdr] at hcell
  show SL _ _ _ _ _ _ (own 5 1 A7 ws.length c7 (bytes ws) :: _)
  rw [hll]
  refine sl_form (e := 5) (size := 1) (A := A7) (m := 64) (by exact at_) (by decide) ?_
  rintro g7 rfl
  refine sl_know (fun w hw => (own_len (e := 5) (size := 1) (A := some ⟨g7, 0, none⟩) hw (by exact at_)).2) ?_
  rintro ⟨l1, l2⟩
  refine go_Jl ?_
  refine sl_call rfl rfl (by kernel_rfl) rfl Sub.refl (sum_ok (xs := ws) ⟨Vw.of_own (e := 5) (c := c7) (by exact at_), l1, by decide, l2, hll, hbb⟩ (by decide)) ?_
  rintro ⟨A8, c8⟩ -
  refine go_Jl ?_
  refine sl_form (e := 5) (size := 1) (A := A8) (m := 8) (by exact at_) (by decide) ?_
  rintro g8 rfl
  refine sl_copy0 (e := 5) (size := 1) (k := 64) (c := c7) (xs := bytes ws) (cs := bytes (hashL 9 (ws.drop 8) 8)) (kk := 8) (o := 0) (g := g7) rfl (by exact pick_) rfl rfl rfl (by decide) (by rw [bytes_length, (hashL_ok _ _ _).1]) (own_cells (e := 5) (size := 1) (k := 8) (c := c8) (xs := bytes (hashL 9 (ws.drop 8) 8)) (by exact at_) Mid.all (by decide)) (by rw [bytes_length, (hashL_ok _ _ _).1]; decide) (one_bytes _) rfl ?_
  have hfin : (bytes ws).take 0 ++ bytes (hashL 9 (ws.drop 8) 8) ++ (bytes ws).drop (0 + (bytes (hashL 9 (ws.drop 8) 8)).length) = bytes (cellL number follow part) := by
    rw [hcell, bytes_app, List.take_zero, List.nil_append, bytes_length, (hashL_ok _ _ _).1]
    simp [bytes]
  rw [hfin]
  refine go_Jl ?_
  exact se_ret1 (some ⟨g7, 0, none⟩, c7) trivial rfl rfl (by exact sub_)
theorem drop_part {bs : List Int} {i n : Nat} (h : bs.length = n) : (bs.drop (i * 48)).take (min ((i + 1) * 48) n - i * 48) = partL bs i := by
  unfold partL
  by_cases hc : (i + 1) * 48 ≤ n
  · rw [Nat.min_eq_left hc]
    congr 1
    omega
  · rw [Nat.min_eq_right (by omega), List.take_of_length_le (by rw [List.length_drop, h]; omega), List.take_of_length_le (by rw [List.length_drop, h]; omega)]
def LyA (K : List Fa) (number : Int) (bs : List Int) : Ending → World → Prop :=
  if number < 0 ∨ 1048576 ≤ number then Ret (fun _ : Unit => True) (fun _ => .tuple #[.slice none 0 0, .int .i64 6]) (fun _ => K)
  else if 65536 < bs.length then Ret (fun _ : Unit => True) (fun _ => .tuple #[.slice none 0 0, .int .i64 4]) (fun _ => K)
  else Ret (fun _ : Option Addr × Nat => True) (fun q => .tuple #[.slice q.1 (recL number.toNat bs).length q.2, .int .i64 0]) (fun q => u8o q.1 q.2 (recL number.toNat bs) :: K)
set_option maxRecDepth 100000 in
set_option maxHeartbeats 4000000 in
theorem Lay_ok {K : List Fa} {A : Option Addr} {n c : Nat} {number : Int} {bs : List Int} (h : Rd K A n c bs) (hnb : -9223372036854775808 ≤ number ∧ number ≤ 9223372036854775807) :
    Fn Tryz.prog 85 #[.int .i64 number, .slice A n c] K (LyA K number bs) := by
  refine fn_enter Tryz.func85 rfl _ Tryz.ntmps85 (by simp) [(0, .int .i64 number), (1, .slice A n c)] (args_of (by simp)) ?_
  have hle := h.le
  have hlen := h.len
  have hbig := h.big
  unfold LyA
  by_cases h0 : number < 0
  · rw [if_pos (.inl h0)]
    refine go_Jl ?_
    exact se_ret2 () trivial rfl rfl rfl rfl (by exact sub_)
  by_cases h1 : 1048576 ≤ number
  · rw [if_pos (.inr h1)]
    refine go_Jl ?_
    exact se_ret2 () trivial rfl rfl rfl rfl (by exact sub_)
  rw [if_neg (by omega)]
  by_cases h2 : 65536 < n
  · rw [if_pos (by omega)]
    refine go_Jl ?_
    exact se_ret2 () trivial rfl rfl rfl rfl (by exact sub_)
  rw [if_neg (by omega)]
  obtain ⟨k, rfl⟩ : ∃ k : Nat, number = k := ⟨number.toNat, by omega⟩
  rw [Int.toNat_natCast]
  refine go_Jl ?_
  refine sl_call rfl rfl (by kernel_rfl) rfl (by exact sub_) (cells_ok (n := n) (by omega)) ?_
  rintro _ -
  have hrec : recL k bs = recF k (manyL n) bs (manyL n) := by rw [recL, hlen]
  rw [hrec, recF_len]
  have hmb : manyL n ≤ 1366 := by unfold manyL; omega
  have hm1 : 1 ≤ manyL n := by unfold manyL; omega
  have hms : (manyL n - 1) * 48 ≤ n := by unfold manyL; omega
  generalize manyL n = many at hmb hm1 hms ⊢
  refine go_Jl ?_
  refine sc_for (fun q : Wg => [(0, .int .i64 k), (1, .slice A n c), (6, .int .i64 many), (7, .slice q.A (q.j * 64) q.c), (24, .int .i64 many), (25, .int .i64 q.j)]) (fun q => own 5 1 q.A (q.j * 64) q.c (bytes (recF k many bs q.j)) :: K) (fun q => q.j ≤ many) (fun q => many - q.j) ⟨0, none, 0⟩ (by exact has_) (Sub.own_nil Sub.refl) (Nat.zero_le _) ?_
  rintro ⟨i, B, cb⟩ hi
  replace hi : i ≤ many := hi
  dsimp only
  by_cases hlt : i < many
  · have hin : i * 48 ≤ n := by
      have : i * 48 ≤ (many - 1) * 48 := Nat.mul_le_mul_right _ (by omega)
      omega
    have hmn : (if (n : Int) < ((i : Int) + 1) * 48 then (n : Int) else ((i : Int) + 1) * 48) = ((min ((i + 1) * 48) n : Nat) : Int) := by split <;> omega
    have hr := (h.next (k := i * 48) hin).front (m := min ((i + 1) * 48) n - i * 48) (by omega)
    rw [drop_part hlen] at hr
    refine go_Jl ?_
    rw [hmn]
    rw [show ((i : Int) * 48).toNat = i * 48 by omega, Int.toNat_natCast]
    have e1 : (k : Int) + i = ((k + i : Nat) : Int) := by omega
    have e2 : (many : Int) - 1 - i = ((many - 1 - i : Nat) : Int) := by omega
    rw [e1, e2]
    refine sl_call rfl rfl (by kernel_rfl) rfl Sub.refl (layP_ok (number := k + i) (follow := many - 1 - i) (hr.mono (by exact sub_)) (by omega) (by omega) (by omega)) ?_
    rintro ⟨B2, cb2⟩ -
    refine sl_app rfl (by exact pick_) rfl (Vw.of_own (e := 5) (c := cb2) (by exact at_)) (one_bytes _) rfl Tryz.info5 (by decide) (by decide) rfl (by unfold maxLen; omega) (by omega) ?_
    intro B3 cb3
    rw [← bytes_app, show i * 64 + 64 = (i + 1) * 64 by omega]
    refine go_Jl ?_
    exact se_round ⟨i + 1, B3, cb3⟩ (by exact has_) (by exact sub_) hlt (by show many - (i + 1) < many - i; omega)
  obtain rfl : i = many := by omega
  refine go_Jl ?_
  refine se_ret2 (B, cb) trivial rfl rfl rfl rfl ?_
  show Sub _ (own 5 1 B (recF k i bs i).length cb (bytes (recF k i bs i)) :: K)
  rw [recF_len]
  exact sub_
end Go.Proofs.YtocaabnbmcpjmaaGreatDoor
/- The law's own cells: lay, all, same. -/
namespace Go.Proofs.YtocaabnbmcpjmaaGreatDoor
open Go.RowKit
attribute [local irreducible] Go.Calls Go.Exit.then Go.Exit.inBlock Go.bodyPost Go.Code.wp Go.wpList takeL recordL hashL
theorem recL_len {k : Nat} {bs : List Int} : (recL k bs).length = manyL bs.length * 64 := recF_len
def cellsA (ls : List (List Int)) : Nat := (ls.map fun x => manyL x.length).sum
def allL (ls : List (List Int)) : List Int := ls.foldl (fun b x => b ++ recL (b.length / 64) x) []
theorem allL_snoc (ls : List (List Int)) (x : List Int) : allL (ls ++ [x]) = allL ls ++ recL ((allL ls).length / 64) x := by simp [allL]
theorem cellsA_snoc (ls : List (List Int)) (x : List Int) : cellsA (ls ++ [x]) = cellsA ls + manyL x.length := by simp [cellsA]
theorem snoc_ind {α : Type} {P : List α → Prop} (h0 : P []) (h1 : ∀ l x, P l → P (l ++ [x])) (l : List α) : P l := by
  have h : ∀ r : List α, P r.reverse := by
    intro r
    induction r with
    | nil => exact h0
    | cons a r ih => rw [List.reverse_cons]; exact h1 _ _ ih
  have := h l.reverse
  rwa [List.reverse_reverse] at this
theorem allL_len (ls : List (List Int)) : (allL ls).length = cellsA ls * 64 := by
  refine snoc_ind (P := fun ls => (allL ls).length = cellsA ls * 64) rfl (fun l x ih => ?_) ls
  rw [allL_snoc, cellsA_snoc, List.length_append, ih, recL_len]
  omega
theorem allL_next (ls : List (List Int)) (x : List Int) : allL (ls ++ [x]) = allL ls ++ recL (cellsA ls) x := by
  rw [allL_snoc, allL_len]
  congr 2
  omega
/-- A slice of bytes, to be read. -/
structure Bx where
  A : Option Addr
  c : Nat
  l : List Int
def Bx.v (s : Bx) : Value := .slice s.A s.l.length s.c
structure LsV (K : List Fa) (R : Option Addr) (xs : List Bx) : Prop where
  vw : Vw K (fun w => Reads w 1 R xs.length (xs.map Bx.v))
  el : ∀ x ∈ xs, Rd K x.A x.l.length x.c x.l
theorem LsV.mono {K K' : List Fa} {R : Option Addr} {xs : List Bx} (h : LsV K R xs) (hs : Sub K' K) : LsV K' R xs := ⟨h.vw.mono hs, fun x hx => (h.el x hx).mono hs⟩
end Go.Proofs.YtocaabnbmcpjmaaGreatDoor
/- Two lists of records: same. A journal of records read back. -/
namespace Go.Proofs.YtocaabnbmcpjmaaGreatDoor
open Go.RowKit
attribute [local irreducible] Go.Calls Go.Exit.then Go.Exit.inBlock Go.bodyPost Go.Code.wp Go.wpList takeL recordL hashL
end Go.Proofs.YtocaabnbmcpjmaaGreatDoor
/- Lists of bytes as they come in; records read back from what Scan answers. -/
namespace Go.Proofs.YtocaabnbmcpjmaaGreatDoor
open Go.RowKit Go.ChangeShapes Go.WideShapes Go.Deep
/-- Bytes that came in, to be read. -/
def Bx.ok (w : World) (b : Bx) : Prop := Reads w 1 b.A b.l.length (bytes b.l) ∧ IsBytes b.l ∧ b.l.length ≤ b.c ∧ b.c ≤ maxLen
instance : Inhabited Bx := ⟨⟨none, 0, []⟩⟩
/-- A list of bytes that came in. -/
structure LsW (w : World) (R : Option Addr) (xs : List Bx) : Prop where
  vw : Reads w 1 R xs.length (xs.map Bx.v)
  el : ∀ x ∈ xs, x.ok w
section
variable {H : Type} {enc : TypeId × Value → H} {w : World} {base : Nat} {spare : Nat → Bool} {held : Bool} {fuel : Nat} {cs : List Value} {x : DataW H × List MemPlace}
end
theorem Bx.ok.rd {w : World} {b : Bx} (h : b.ok w) (hl : b.l.length ≤ 70368744177664) : Rd [old w] b.A b.l.length b.c b.l := ⟨Vw.of_old .here h.1, h.2.2.1, hl, h.2.2.2, rfl, h.2.1⟩
theorem LsW.to {w : World} {R : Option Addr} {xs : List Bx} (h : LsW w R xs) (hl : ∀ x ∈ xs, x.l.length ≤ 70368744177664) : LsV [old w] R xs := ⟨Vw.of_old .here h.vw, fun x hx => (h.el x hx).rd (hl x hx)⟩
def Sx.bx (s : Sx) : Bx := ⟨s.A, s.c, s.l⟩
theorem star_at {w : World} {f : Fa} {G L : List Fa} (hw : Sep w L) (hs : At (star G) L) (hf : f ∈ G) : f.P w := by
  have h1 := hw.at hs
  unfold star at h1
  exact h1.mem hf
/-- What Scan answers, to be read. -/
theorem SRow.ls {K : List Fa} {q : SRow} (hr : At q.row K) (hs : At q.st K) (hok : ∀ x ∈ q.xs, x.ok) : LsV K q.R (q.xs.map Sx.bx) := by
  refine ⟨fun w hw => ?_, fun x hx => ?_⟩
  · have h1 := Vw.of_own hr w hw
    have h2 : (q.xs.map Sx.bx).map Bx.v = sxV q.xs := by simp [sxV, Sx.bx, Bx.v, Sx.v]
    rw [h2, List.length_map]
    exact h1
  · obtain ⟨s, hs', rfl⟩ := List.mem_map.1 hx
    obtain ⟨⟨o1, o2⟩, o3, o4⟩ := hok s hs'
    refine ⟨fun w hw => ?_, o1, by show s.l.length ≤ _; omega, o2, rfl, o4⟩
    have h1 : (own 5 1 s.A s.l.length s.d (bytes s.l)).P w := star_at hw hs (List.mem_map.2 ⟨s, hs', rfl⟩)
    unfold own at h1
    exact Reads.of_own h1
end Go.Proofs.YtocaabnbmcpjmaaGreatDoor
/- A journal of records, read back: these records. Plain lists. -/
namespace Go.Proofs.YtocaabnbmcpjmaaGreatDoor
open Go
attribute [local irreducible] takeL recordL hashL cellL
attribute [local semireducible] takeL in
theorem take_out {bs : List Int} {k : Nat} (h : bs.length < (k + 1) * 64) : takeL bs k = none := if_pos h
attribute [local semireducible] recordL in
theorem rec_out {bs : List Int} {k : Nat} (h : bs.length < (k + 1) * 64) : recordL bs k = none := by
  unfold recordL
  rw [take_out h]
end Go.Proofs.YtocaabnbmcpjmaaGreatDoor
/- JournalLays. -/
namespace Go.Proofs.YtocaabnbmcpjmaaGreatDoor
open Go.RowKit
attribute [local irreducible] Go.Calls Go.Exit.then Go.Exit.inBlock Go.bodyPost Go.Code.wp Go.wpList takeL recordL hashL recL allL
theorem LyA_ok {K : List Fa} {k : Nat} {bs : List Int} (h : k < 1048576) (hb : bs.length ≤ 65536) : LyA K k bs = Ret (fun _ : Option Addr × Nat => True) (fun q => .tuple #[.slice q.1 (recL k bs).length q.2, .int .i64 0]) (fun q => u8o q.1 q.2 (recL k bs) :: K) := by
  unfold LyA
  rw [if_neg (by omega), if_neg (by omega), Int.toNat_natCast]
end Go.Proofs.YtocaabnbmcpjmaaGreatDoor
/- A disk in memory; its smallest functions. -/
namespace Go.Proofs.YtocaabnbmcpjmaaGreatDoor
open Go.RowKit Go.MapKept
attribute [local irreducible] Go.Calls Go.Exit.then Go.Exit.inBlock Go.bodyPost Go.Code.wp Go.wpList
/-- A file on a disk: its name, where its bytes lie, its bytes, how many are synced; the number at which it came in. -/
structure DF where
  s : ByteArray
  A : Option Addr
  c : Nat
  l : List Int
  sy : Nat
  bn : Nat
def DF.val (f : DF) : Value := .agg #[.slice f.A f.l.length f.c, .int .i64 f.sy]
def DF.ent (f : DF) : MapEntry := ⟨.string f.s, f.val, f.bn⟩
abbrev DF.fa (f : DF) : Fa := u8o f.A f.c f.l
def DF.ok (f : DF) : Prop := f.sy ≤ f.l.length ∧ IsBytes f.l
abbrev dB (g m : Nat) (lim : Int) : Fa := blk g 81 [.map (some m), .int .i64 lim]
abbrev dM (m : Nat) (fs : List DF) (ck : Nat) : Fa := mp m .string (fs.map DF.ent) ck
abbrev dS (fs : List DF) : Fa := star (fs.map DF.fa)
def DHas (fs : List DF) (s : ByteArray) : Prop := ∃ f ∈ fs, f.s = s
theorem dget {fs : List DF} {f : DF} (h : f ∈ fs) : MGet (fs.map DF.ent) (.string f.s) f.val := ⟨f.ent, List.mem_map.2 ⟨f, h, rfl⟩, rfl, rfl⟩
theorem dno {fs : List DF} {s : ByteArray} (h : ¬ DHas fs s) : MNo (fs.map DF.ent) (.string s) := fun e he hk => by
  obtain ⟨f, hf, rfl⟩ := List.mem_map.1 he
  have hk' : Value.string f.s = .string s := hk
  injection hk' with hk'
  exact h ⟨f, hf, hk'⟩
theorem star_get {f : Fa} {G L : List Fa} (h : At (star G) L) (hf : f ∈ G) : Vw L f.P := fun w hw => by
  have h1 := hw.at h
  unfold star at h1
  exact h1.mem hf
theorem star_pull {A B K : List Fa} {f : Fa} : Ent_ (star (A ++ f :: B) :: K) (f :: star (A ++ B) :: K) := fun w hw => by
  have h1 := star_out w hw
  rw [List.append_assoc, List.cons_append] at h1
  have h2 := (pick_mid A).out w h1
  rw [← List.append_assoc] at h2
  exact Ent_.tail star_in (fun k hk => by
    rcases foot_cons.1 hk with e | e
    · unfold star at e
      obtain ⟨y, hy, hk⟩ := e
      exact ⟨y, List.mem_append_left _ hy, hk⟩
    · obtain ⟨y, hy, hk⟩ := e
      exact ⟨y, List.mem_append_right _ hy, hk⟩) w h2
theorem star_push {A B K : List Fa} {f : Fa} : Ent_ (f :: star (A ++ B) :: K) (star (A ++ f :: B) :: K) := fun w hw => by
  refine star_in w ?_
  rw [List.append_assoc, List.cons_append]
  refine (pick_mid A).back w ?_
  rw [← List.append_assoc]
  exact Ent_.tail star_out (fun k hk => by
    obtain ⟨y, hy, hk⟩ := hk
    rcases List.mem_append.1 hy with e | e
    · exact foot_cons.2 (.inl (by unfold star; exact ⟨y, e, hk⟩))
    · exact foot_cons.2 (.inr ⟨y, e, hk⟩)) w hw
/-- What a name is made of. -/
def chB (c : UInt8) : Bool := (97 ≤ c && c ≤ 122) || (48 ≤ c && c ≤ 57) || c == 46 || c == 45
def nameB (s : ByteArray) : Bool := decide (1 ≤ s.size ∧ s.size ≤ 16) && s.data.toList.all chB
theorem str_at {s : ByteArray} {i : Nat} (h : i < s.size) : s[((i : Nat) : Int).toNat]? = some s[i] := by
  rw [Int.toNat_natCast]
  exact getElem?_pos s i h
set_option maxRecDepth 100000 in
theorem ch_cases (c : UInt8) : (c.toNat < 45 ∧ chB c = false) ∨ (c.toNat = 45 ∧ chB c = true) ∨ (c.toNat = 46 ∧ chB c = true) ∨ (c.toNat = 47 ∧ chB c = false) ∨ ((48 ≤ c.toNat ∧ c.toNat ≤ 57) ∧ chB c = true) ∨ ((58 ≤ c.toNat ∧ c.toNat ≤ 96) ∧ chB c = false) ∨ ((97 ≤ c.toNat ∧ c.toNat ≤ 122) ∧ chB c = true) ∨ (123 ≤ c.toNat ∧ chB c = false) := by
  have h : c.toNat < 256 := c.toNat_lt
  obtain ⟨n, hn⟩ : ∃ n, c.toNat = n := ⟨_, rfl⟩
  have hc : c = UInt8.ofNat n := by rw [← hn]; simp
  rw [hn] at h ⊢
  subst hc
  clear hn
  revert n
  decide
theorem all_snoc {s : ByteArray} {i : Nat} (h : i < s.size) : (s.data.toList.take (i + 1)).all chB = ((s.data.toList.take i).all chB && chB s[i]) := by
  rw [List.take_succ_eq_append_getElem (by simpa using h), List.all_append]
  simp
  rfl
theorem all_not {s : ByteArray} {i : Nat} (h : i < s.size) (hc : chB s[i] = false) : s.data.toList.all chB = false := by
  rw [Bool.eq_false_iff]
  intro ha
  rw [List.all_eq_true] at ha
  have := ha s[i] (by
    have : s[i] ∈ s.data := Array.getElem_mem _
    simpa using this)
  rw [hc] at this
  cases this
end Go.Proofs.YtocaabnbmcpjmaaGreatDoor
/- A disk: New, has, Used, and copies of bytes. -/
namespace Go.Proofs.YtocaabnbmcpjmaaGreatDoor
open Go.RowKit Go.MapKept
attribute [local irreducible] Go.Calls Go.Exit.then Go.Exit.inBlock Go.bodyPost Go.Code.wp Go.wpList
theorem ff_one {A : Option Addr} {n c : Nat} {k : IntKind} {s : Int} : ∀ v ∈ [Value.slice A n c, .int k s], v.oneCell' = true := by
  intro v hv
  simp only [List.mem_cons, List.not_mem_nil, or_false] at hv
  rcases hv with rfl | rfl <;> rfl
theorem pu_field2 {P : Program} {C : World → Prop} {n : Nat} {l : Env} {ty t : TypeId} {x : Operand} {cs : List Value} {i o : Nat} {fs : List Field} {f : Field} {v : Value} (hx : ev l x = some (.agg cs.toArray)) (ht : P.underlying t = some (.struct fs.toArray)) (hf : fs[i]? = some f) (ho : f.offset = o) (hp : plainT P f.type = true) (hn : nth cs o = some v) : Pu P C n l (.field t x i) ty v := by
  unfold Pu
  intro a _ _ _ _ W hs _
  obtain ⟨⟨d, hu, hagg⟩, _⟩ := plainT_spec hp
  subst ho
  rw [nth_eq] at hn
  simp only [execOp, hs.ev hx]
  simp [Instr.field, run_underlying ht, hf, part, asAgg, hagg, hn]
theorem sub_dS0 {L L' : List Fa} (h : Sub L L') : Sub L (dS [] :: L') := by
  show Sub L (star [] :: L')
  exact .free (fun w => by unfold star; exact (Sep.start w).sub Sub.nil) (fun j hj => by unfold star at hj; exact foot_nil hj) h
theorem nth_Dk2 {φ : Prop} (h : φ := by (first | rfl | rfl)) : φ := h
theorem mid_Dk2 {φ : Prop} (h : φ := by (first | exact Mid.all | exact Mid.all | exact Mid.head)) : φ := h
theorem sz_Dk2 {φ : Prop} (h : φ := by (first | rfl | (rfl; first | done | fail))) : φ := h
theorem one_Dk2 {φ : Prop} (h : φ := by (first | assumption | exact first | exact one_bytes _ | exact ff_one | (simp only [List.mem_cons, List.not_mem_nil, or_false, forall_eq_or_imp, forall_eq]; decide) | exact one_bytes _ | (intro v hv; (repeat (rcases List.mem_cons.1 hv with rfl | hv; rfl)); cases hv))) : φ := h
theorem set_Dk2 {φ : Prop} (h : φ := by (first | (fail) | ((repeat (first | exact SetAt.here | apply SetAt.there)); first | done | fail))) : φ := h
theorem cl_Dk2 {φ : Prop} (h : φ := by first | rfl | exact .t | exact .f | exact .t (by omega) | exact .f (by omega) | exact .u | exact .i (by (first | exact .t (by omega) | exact .f (by omega) | exact .u | exact .i (by omega) | exact .v (by omega) | exact .b (by omega) | exact .w | rfl | omega)) | exact .v (by omega) | exact .b (by omega) | exact .q (by omega) | exact .w | exact .b (by exact at_) rfl (by exact nth_Dk2) | exact .w (by exact at_) rfl rfl (by exact sz_Dk2) | exact .s (by exact at_) (by exact mid_Dk2) rfl rfl (by exact sz_Dk2) | exact .z rfl rfl ⟨by kernel_rfl⟩ | exact .b rfl rfl ⟨by kernel_rfl⟩ | exact .a rfl rfl ⟨by kernel_rfl⟩ | exact .o rfl | exact .s | exact .n | exact .p rfl | exact .q rfl | exact .c rfl | exact .d rfl | exact .n rfl rfl (by omega) | exact .a rfl rfl (by omega) | exact .p rfl rfl (by omega) (by omega) | exact .y rfl rfl (by omega) (by omega) | exact .o (by exact at_) (by omega) rfl (by exact nth_Dk2) | exact .m (by exact at_) (by omega) (by exact mid_Dk2) rfl rfl (by exact sz_Dk2) | exact .mlen (by exact at_) rfl | exact .t (by exact at_) rfl rfl (by first | exact True.intro | rfl) (by assumption) | exact .f (by exact at_) rfl rfl (by first | exact True.intro | rfl) (by assumption) rfl | exact .t1 (by exact at_) rfl rfl (by first | exact True.intro | rfl) (by assumption) | exact .f1 (by exact at_) rfl rfl (by first | exact True.intro | rfl) (by assumption) rfl | exact .tk (by exact at_) rfl (by assumption) (by assumption) | exact .fk (by exact at_) rfl (by assumption) (by assumption) rfl | exact .tk1 (by exact at_) rfl (by assumption) (by assumption) | exact .fk1 (by exact at_) rfl (by assumption) (by assumption) rfl | exact .r rfl rfl (by omega) (by omega) (by exact nth_Dk2) rfl | exact .s rfl (by omega) (by assumption) | exact at_ | assumption | exact .r rfl rfl | exact .h rfl rfl rfl (by omega) | exact .l rfl rfl rfl (by omega) (by omega) | exact .g rfl rfl rfl rfl (by omega) (by omega) | exact .h rfl rfl (toN_ (by omega)) (by omega) | exact .l rfl rfl (toN_ (by omega)) (by omega) (by omega) | exact .g rfl rfl (toN_ (by omega)) (toN_ (by omega)) (by omega) (by omega) | exact .o (by decide) | exact .f (by decide) | exact .n (by omega) (by first | decide | (show _ ≤ ((64 : Nat) : Int); omega)) | (constructor; (repeat (first | exact .t (by omega) | exact .f (by omega) | exact .u | exact .i (by omega) | exact .v (by omega) | exact .b (by omega) | exact .w | rfl | omega)); first | done | fail) | omega | (show _ ≤ ((64 : Nat) : Int); omega)) : φ := h
theorem pv_Dk2 {φ : Prop} (h : φ := by constructor; (repeat exact cl_Dk2); first | done | fail) : φ := h
theorem su_Dk2 {φ ψ : Prop} (k : ψ) (h : Hide ψ → φ := by (intro k; (first | refine sl_pu (PuI.sep (by exact pv_Dk2)) rfl ?_ | refine sl_yes rfl rfl ?_ | refine sl_no rfl rfl rfl ?_ | refine sl_off rfl rfl rfl ?_ | (fail)); exact k.out)) : φ := h ⟨k⟩
theorem sto_Dk2 {φ ψ : Prop} (k : ψ) (h : Hide ψ → φ := by (intro k; (first | refine sl_store rfl (by exact pick_) rfl rfl (by kernel_rfl) (by exact set_Dk2) ?_ | refine sl_store_whole rfl (by exact pick_) rfl (by exact sz_Dk2) (by exact sz_Dk2) (by exact one_Dk2) ?_); exact k.out)) : φ := h ⟨k⟩
theorem go_Dk2 {φ ψ : Prop} (k : ψ) (h : Hide ψ → φ := by (intro k; (repeat (first | refine su_Dk2 ?_ | refine so_ ?_ | refine sto_Dk2 ?_)); exact k.out)) : φ := h ⟨k⟩
set_option maxRecDepth 100000 in
set_option maxHeartbeats 2000000 in
theorem clone_ok {K : List Fa} {A : Option Addr} {n c : Nat} {bs : List Int} (hr : Vw K (fun w => Reads w 1 A n (bytes bs))) (hn : n ≤ 70368744177664) :
    Fn Tryz.prog 64 #[.slice A n c] K (Ret (fun _ : Option Addr × Nat => True) (fun q => .slice q.1 n q.2) (fun q => own 5 1 q.1 n q.2 (bytes bs) :: K)) := by
  refine fn_enter Tryz.func64 rfl _ Tryz.ntmps64 (by simp) [(0, .slice A n c)] (args_of (by simp)) ?_
  cases A with
  | none =>
    refine sc_know (φ := n = 0) (fun w hw => ?_) ?_
    · rcases Nat.eq_zero_or_pos n with h | h
      · exact h
      · obtain ⟨ad, h1, _⟩ := (hr w hw).2 h
        cases h1
    intro h0
    subst h0
    refine sc_know (vw_len hr) ?_
    intro hl
    obtain rfl : bs = [] := List.eq_nil_of_length_eq_zero hl
    refine go_Dk2 ?_
    exact se_ret1 (none, 0) trivial rfl rfl (Sub.own_nil Sub.refl)
  | some a =>
    refine go_Dk2 ?_
    refine sl_build0 (e := 5) (size := 1) rfl (fun W => by kernel_rfl) rfl ?_
    intro g0
    refine go_Dk2 ?_
    refine sl_app rfl (by exact pick_) rfl (hr.mono (by exact sub_)) (one_bytes _) rfl Tryz.info5 (by decide) (by decide) rfl (by unfold maxLen; omega) (by omega) ?_
    intro A2 c2
    rw [Nat.zero_add, List.nil_append]
    refine go_Dk2 ?_
    exact se_ret1 (A2, c2) trivial rfl rfl (by exact sub_)
def limL (x : Int) : Int := if 1048576 < (if x < 0 then 0 else x) then 1048576 else (if x < 0 then 0 else x)
set_option maxRecDepth 100000 in
set_option maxHeartbeats 2000000 in
theorem newD_ok {K : List Fa} {x : Int} :
    Fn Tryz.prog 10 #[.int .i64 x] K (Ret (fun _ : Nat × Nat => True) (fun q => .pointer (some ⟨q.1, 0, none⟩)) (fun q => dB q.1 q.2 (limL x) :: dM q.2 [] 0 :: dS [] :: K)) := by
  refine fn_enter Tryz.func10 rfl _ Tryz.ntmps10 (by simp) [(0, .int .i64 x)] (args_of (by simp)) ?_
  have hl : limL x = if 1048576 < (if x < 0 then 0 else x) then 1048576 else (if x < 0 then 0 else x) := rfl
  refine go_Dk2 ?_
  refine sl_makeMap (d := .string) rfl ?_
  intro m
  refine go_Dk2 ?_
  rw [← hl]
  generalize limL x = lim
  refine sl_pu (pu_build (v := .agg #[.map (some m), .int .i64 lim]) rfl (fun W => by kernel_rfl)) rfl ?_
  refine sl_box rfl rfl rfl ?_
  intro g
  refine go_Dk2 ?_
  exact se_ret1 (g, m) trivial rfl rfl (.cons .here (.cons .here (sub_dS0 .refl)))
set_option maxRecDepth 100000 in
set_option maxHeartbeats 2000000 in
theorem has_yes {K : List Fa} {g m ck : Nat} {lim : Int} {fs : List DF} {f : DF} (hB : At (dB g m lim) K) (hM : At (dM m fs ck) K) (hf : f ∈ fs) :
    Fn Tryz.prog 73 #[.pointer (some ⟨g, 0, none⟩), .string f.s] K (Ret (fun _ : Unit => True) (fun _ => .bool true) (fun _ => K)) := by
  refine fn_enter Tryz.func73 rfl _ Tryz.ntmps73 (by simp) [(0, .pointer (some ⟨g, 0, none⟩)), (1, .string f.s)] (args_of (by simp)) ?_
  have hg := dget hf
  unfold DF.val at hg
  refine go_Dk2 ?_
  refine sl_alloc rfl rfl rfl ?_; intro g5
  refine go_Dk2 ?_
  exact se_ret1 () trivial rfl rfl (by exact sub_)
set_option maxRecDepth 100000 in
set_option maxHeartbeats 2000000 in
theorem has_no {K : List Fa} {g m ck : Nat} {lim : Int} {fs : List DF} {s : ByteArray} (hB : At (dB g m lim) K) (hM : At (dM m fs ck) K) (hf : ¬ DHas fs s) :
    Fn Tryz.prog 73 #[.pointer (some ⟨g, 0, none⟩), .string s] K (Ret (fun _ : Unit => True) (fun _ => .bool false) (fun _ => K)) := by
  refine fn_enter Tryz.func73 rfl _ Tryz.ntmps73 (by simp) [(0, .pointer (some ⟨g, 0, none⟩)), (1, .string s)] (args_of (by simp)) ?_
  have hg := dno hf
  refine go_Dk2 ?_
  refine sl_alloc rfl rfl rfl ?_; intro g5
  refine go_Dk2 ?_
  exact se_ret1 () trivial rfl rfl (by exact sub_)
end Go.Proofs.YtocaabnbmcpjmaaGreatDoor
/- A nil disk. -/
namespace Go.Proofs.YtocaabnbmcpjmaaGreatDoor
open Go.RowKit Go.MapKept
attribute [local irreducible] Go.Calls Go.Exit.then Go.Exit.inBlock Go.bodyPost Go.Code.wp Go.wpList
end Go.Proofs.YtocaabnbmcpjmaaGreatDoor
