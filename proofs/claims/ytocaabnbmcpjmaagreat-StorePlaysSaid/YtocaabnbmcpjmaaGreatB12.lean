/- Several texts of one claim, one behind the other. -/
import Derived.Test.YtocaabnbmcpjmaaGreatB11
import Derived.Test.YtocaabnbmcpjmaaGreatB01
import Derived.Test.YtocaabnbmcpjmaaGreatB06
import Derived.Test.YtocaabnbmcpjmaaGreatB07
set_option linter.unusedVariables false
set_option linter.unusedSimpArgs false
set_option maxRecDepth 100000
set_option maxHeartbeats 16000000
namespace Go.Proofs.YtocaabnbmcpjmaaGreat
variable {φ ψ : Prop}
section
open Go.RowKit
attribute [local irreducible] Go.Calls Go.Exit.then Go.Exit.inBlock Go.bodyPost Go.Code.wp Go.wpList takeL recordL
section
structure SRow where
 xs : List Sx
 R : Option Addr
 c : Nat
abbrev SRow.row (q : SRow) : Fa := own 27 1 q.R q.xs.length q.c (sxV q.xs)
abbrev SRow.st (q : SRow) : Fa := star (sxO q.xs)
def ScA (K : List Fa) (out : List (List Int)) (k : Nat) : Bool → Ending → World → Prop
 | true => Ret (fun _ : Unit => True) (fun _ => .tuple #[.slice none 0 0, .int .i64 0, .int .i64 23]) (fun _ => K)
 | false => Ret (fun q : SRow => q.xs.map Sx.l = out ∧ ∀ x ∈ q.xs, x.ok) (fun q => .tuple #[.slice q.R q.xs.length q.c, .int .i64 k, .int .i64 0]) (fun q => q.row :: q.st :: K)
theorem ScA_no {K : List Fa} {out : List (List Int)} {k : Nat} : ScA K out k true = Ret (fun _ : Unit => True) (fun _ => .tuple #[.slice none 0 0, .int .i64 0, .int .i64 23]) (fun _ => K) := rfl
theorem ScA_yes {K : List Fa} {out : List (List Int)} {k : Nat} : ScA K out k false = Ret (fun q : SRow => q.xs.map Sx.l = out ∧ ∀ x ∈ q.xs, x.ok) (fun q => .tuple #[.slice q.R q.xs.length q.c, .int .i64 k, .int .i64 0]) (fun q => q.row :: q.st :: K) := rfl
theorem halt_mono {bs : List Int} {a k : Nat} (h : haltB bs a k = true) : ∀ j, haltB bs a (k + j) = true
 | 0 => h
 | j + 1 => by rw [← Nat.add_assoc, haltB, halt_mono h j, Bool.true_or]
theorem sl1_one {A : Option Addr} {n c : Nat} : ∀ u ∈ [Value.slice A n c], u.oneCell' = true := by
 intro u hu
 rw [List.mem_singleton] at hu
 subst hu
 rfl
namespace pJu
theorem onex_ (h : φ := by first | exact jc_one | exact jz_one | exact one_bytes _ | exact sl1_one) : φ := h
end pJu
open pJu
theorem sub_row0 {K : List Fa} : Sub K ((⟨[], none, 0⟩ : SRow).row :: (⟨[], none, 0⟩ : SRow).st :: K) := by
 show Sub K (own 27 1 none 0 0 [] :: star [] :: K)
 exact Sub.own_nil (Sub.free (fun w => by unfold star; exact (Sep.start w).sub Sub.nil) (fun k hk => by unfold star at hk; exact foot_nil hk) Sub.refl)
structure Sg where
 q : SRow
 k : Nat
 j : Nat
theorem e1_Ju (h : φ := by (refine go_ ?_; refine al_ ?_; intro g12; refine go_ ?_; exact se_round (i + 1) (by rw [e1]; exact has_) sub_ ⟨hlt, e2⟩ (by omega))) : φ := h
theorem scan_ok {K : List Fa} {A : Option Addr} {n c j0 k0 : Nat} {bs : List Int} {out0 : List (List Int)} (h : Rd K A n c bs) (hn : n ≤ 100000000000) (hc0 : chainL bs j0 = some (k0, out0)) (he0 : recordL bs k0 = none) :
  Fn Tryz.prog 83 #[.slice A n c] K (ScA K out0 k0 (haltB bs k0 (cutN bs - k0))) := by
 refine fe_ Tryz.func83 Tryz.ntmps83 [(0, .slice A n c)] ?_
 have hle := h.le
 have hlen := h.len
 refine go_ ?_; refine sc_bjoin (fun q : Sg => [(0, .slice A n c), (5, .slice q.q.R q.q.xs.length q.q.c), (6, .int .i64 k0)]) (fun q => q.q.row :: q.q.st :: K) (fun q => q.q.xs.map Sx.l = out0 ∧ (∀ x ∈ q.q.xs, x.ok) ∧ k0 * 64 ≤ n) ?_ ?_
 ·refine sc_for (fun q : Sg => [(0, .slice A n c), (5, .slice q.q.R q.q.xs.length q.q.c), (6, .int .i64 q.k)]) (fun q => q.q.row :: q.q.st :: K) (fun q => chainL bs q.j = some (q.k, q.q.xs.map Sx.l) ∧ (∀ x ∈ q.q.xs, x.ok) ∧ q.k * 64 ≤ n ∧ q.q.xs.length ≤ q.k) (fun q => n - q.k) ⟨⟨[], none, 0⟩, 0, 0⟩ has_ sub_row0 ⟨rfl, (fun x hx => by cases hx), Nat.zero_le _, Nat.le_refl _⟩ ?_; rintro ⟨⟨xs, R, cr⟩, k, j⟩ ⟨hch, hok, hk, hx⟩
  replace hch : chainL bs j = some (k, xs.map Sx.l) := hch
  replace hk : k * 64 ≤ n := hk
  replace hx : xs.length ≤ k := hx
  replace hok : ∀ x ∈ xs, x.ok := hok
  dsimp only [SRow.row, SRow.st]
  have hrc := record_ok (h.mono (Z' := own 27 1 R xs.length cr (sxV xs) :: star (sxO xs) :: K) sub_) (k := k) (by omega)
  refine go_ ?_
  cases hr : recordL bs k with
  | none =>
   obtain ⟨e1, e2⟩ := chain_end hch hr hc0 he0
   subst e1
   rw [hr, RcA_no] at hrc
   refine slc_ rfl rfl sub_ hrc ?_; rintro _ -; refine go_ ?_; exact se_mid ⟨⟨xs, R, cr⟩, k, j⟩ has_ sub_ ⟨e2, hok, hk⟩
  | some xm =>
   obtain ⟨x, m⟩ := xm
   obtain ⟨m1, m2, m3, m4, m5⟩ := recordL_some hr h.okb
   rw [hlen] at m3
   rw [hr, RcA_yes] at hrc
   refine slc_ rfl rfl sub_ hrc ?_; rintro ⟨P, cp, dp⟩ hcp
   replace hcp : x.length ≤ cp ∧ cp ≤ maxLen := hcp
   dsimp only; refine go_ ?_; refine sl_build (size := 1) (e := 27) (cells := [.slice P x.length cp]) rfl (fun W => by kernel_rfl) rfl (by decide) rfl ?_; intro gb; refine sl_app (z := .slice none 0 0) (size := 1) (bytes := 24) rfl pick_ rfl (Vw.of_own (e := 27) (c := 1) (A := some ⟨gb, 0, none⟩) at_) sl1_one rfl (by kernel_rfl) (by decide) (by decide) rfl (by unfold maxLen; omega) (by omega) ?_; intro R2 cr2; refine go_ ?_
   have e3 : sxV xs ++ [Value.slice P x.length cp] = sxV (xs ++ [⟨P, cp, dp, x⟩]) := by simp [sxV, Sx.v]
   have e4 : sxO xs ++ [u8o P dp x] = sxO (xs ++ [⟨P, cp, dp, x⟩]) := by simp [sxO, Sx.fa]
   have e5 : xs.length + 1 = (xs ++ [(⟨P, cp, dp, x⟩ : Sx)]).length := by simp
   rw [e3, e5]; refine se_ent (fun w hw => star_snoc (f := u8o P dp x) (G := sxO xs) (K := own 27 1 R2 (xs ++ [(⟨P, cp, dp, x⟩ : Sx)]).length cr2 (sxV (xs ++ [⟨P, cp, dp, x⟩])) :: K) w (hw.sub sub_)) ?_; rw [e4]
   refine se_round ⟨⟨xs ++ [⟨P, cp, dp, x⟩], R2, cr2⟩, k + m, j + 1⟩ has_ sub_ ⟨?_, ?_, by show (k + m) * 64 ≤ n; exact m3, by show (xs ++ [(⟨P, cp, dp, x⟩ : Sx)]).length ≤ k + m; simp; omega⟩ (by show n - (k + m) < n - k; omega)
   ·show chainL bs (j + 1) = some (k + m, (xs ++ [(⟨P, cp, dp, x⟩ : Sx)]).map Sx.l)
    rw [chainL, hch]
    simp only [hr, List.map_append, List.map_cons, List.map_nil]
   ·intro y hy
    rcases List.mem_append.1 hy with hy | hy
    ·exact hok y hy
    ·rw [List.mem_singleton] at hy
     subst hy; exact ⟨hcp, by show x.length ≤ 1000000; omega, m5⟩
 rintro ⟨⟨xs, R, cr⟩, kk, jj⟩ ⟨hout, hok, hk⟩
 replace hk : k0 * 64 ≤ n := hk
 replace hok : ∀ x ∈ xs, x.ok := hok
 dsimp only [SRow.row, SRow.st]
 have hcut : cutN bs = (n + 63) / 64 := by unfold cutN; rw [hlen]
 obtain ⟨N, hN⟩ : ∃ N, cutN bs - k0 = N := ⟨_, rfl⟩
 rw [hN]
 have hN2 : cutN bs = k0 + N := by omega
 refine go_ ?_; refine sc_bjoin (fun _ : Unit => [(5, .slice R xs.length cr), (6, .int .i64 k0)]) (fun _ => own 27 1 R xs.length cr (sxV xs) :: star (sxO xs) :: K) (fun _ => haltB bs k0 N = false) ?_ ?_
 ·refine sc_for (fun i : Nat => [(0, .slice A n c), (5, .slice R xs.length cr), (6, .int .i64 k0), (10, .bool (tornB bs k0 i)), (11, .int .i64 ((k0 + i : Nat) : Int))]) (fun _ => own 27 1 R xs.length cr (sxV xs) :: star (sxO xs) :: K) (fun i => i ≤ N ∧ haltB bs k0 i = false) (fun i => N - i) 0 has_ sub_ ⟨Nat.zero_le _, rfl⟩ ?_; rintro i ⟨hi, hno⟩
  by_cases hlt : i < N
  ·have htk := take_ok (h.mono (Z' := own 27 1 R xs.length cr (sxV xs) :: star (sxO xs) :: K) sub_) (k := k0 + i) (by omega)
   obtain ⟨tb, hT⟩ : ∃ tb, tornB bs k0 i = tb := ⟨_, rfl⟩
   rw [hT]; refine go_ ?_
   cases ht : takeL bs (k0 + i) with
   | none =>
    have e1 : tornB bs k0 (i + 1) = true := by rw [tornB, ht]; simp
    have e2 : haltB bs k0 (i + 1) = false := by rw [haltB, hno, ht]; rfl
    rw [ht, TkA_no] at htk
    refine slc_ rfl rfl sub_ htk ?_; rintro _ -
    cases tb with
    | true =>
     exact e1_Ju
    | false =>
     exact e1_Ju
   | some fp =>
    obtain ⟨f, p⟩ := fp
    rw [ht, TkA_yes] at htk
    refine slc_ rfl rfl sub_ htk ?_; rintro ⟨P, cp⟩ -
    cases tb with
    | true =>
     have e2 : haltB bs k0 (i + 1) = true := by rw [haltB, hno, ht, hT]; rfl
     have e3 := halt_mono e2 (N - (i + 1))
     rw [show i + 1 + (N - (i + 1)) = N by omega] at e3
     rw [e3, ScA_no]; refine go_ ?_; refine al_ ?_; intro g12; refine go_ ?_; exact se_ret3 () trivial rfl rfl rfl rfl rfl sub_
    | false =>
     have e1 : tornB bs k0 (i + 1) = false := by rw [tornB, ht, hT]; rfl
     have e2 : haltB bs k0 (i + 1) = false := by rw [haltB, hno, ht, hT]; rfl
     exact e1_Ju
  ·obtain rfl : i = N := by omega
   refine go_ ?_; exact se_mid () has_ sub_ hno
 rintro _ hno; rw [hno, ScA_yes]; refine go_ ?_; exact se_ret3 ⟨xs, R, cr⟩ ⟨hout, hok⟩ rfl rfl rfl rfl rfl sub_
end
section
theorem zs_len {n : Nat} : (zs n).length = n := by simp [zs]
theorem zs_bytes {n : Nat} : IsBytes (zs n) := fun x hx => by
 have := List.eq_of_mem_replicate hx
 subst this; exact ⟨by decide, by decide⟩
theorem made_u8 (n m : Nat) (h : m ≤ n) : ((madeCells (Value.int .u8 0).cells (n * 1)).toList.take (m * 1)) = bytes (zs m) := by
 rw [Nat.mul_one, Nat.mul_one]
 have h1 : (madeCells (Value.int .u8 0).cells n).toList = List.replicate n (Value.int .u8 0) := by
  apply List.ext_getElem?
  intro i
  by_cases hi : i < n
  ·simp [madeCells, Value.cells, hi, Nat.mod_one]
  ·simp [madeCells, Value.cells, hi]
 rw [h1, List.take_replicate, Nat.min_eq_left h]
 simp [bytes, zs]
theorem bodyL_len {number follow : Nat} {part : List Int} (h : part.length ≤ 48) : (bodyL number follow part).length = 56 := by
 simp only [bodyL, List.length_append, le_len, zs_len]
 omega
theorem bodyL_bytes {number follow : Nat} {part : List Int} (h : IsBytes part) : IsBytes (bodyL number follow part) :=
 ((((le_bytes _ _).app (le_bytes _ _)).app (le_bytes _ _)).app h).app zs_bytes
theorem cellL_len {number follow : Nat} {part : List Int} (h : part.length ≤ 48) : (cellL number follow part).length = 64 := by
 rw [cellL, List.length_append, (hashL_ok _ _ _).1, bodyL_len h]
theorem cellL_bytes {number follow : Nat} {part : List Int} (h : IsBytes part) : IsBytes (cellL number follow part) := (hashL_ok _ _ _).2.app (bodyL_bytes h)
theorem partL_len {bs : List Int} {i : Nat} : (partL bs i).length ≤ 48 := by rw [partL, List.length_take]; omega
theorem recF_len {number many : Nat} {bs : List Int} : ∀ {i : Nat}, (recF number many bs i).length = i * 64
 | 0 => rfl
 | i + 1 => by rw [recF, List.length_append, recF_len, cellL_len partL_len]; omega
theorem recF_bytes {number many : Nat} {bs : List Int} (h : IsBytes bs) : ∀ {i : Nat}, IsBytes (recF number many bs i)
 | 0 => fun x hx => by cases hx
 | i + 1 => (recF_bytes h).app (cellL_bytes ((h.drop _).take _))
attribute [local irreducible] hashL
theorem layP_ok {K : List Fa} {A : Option Addr} {n c number follow : Nat} {part : List Int} (h : Rd K A n c part) (hn : n ≤ 48) (h1 : number < 16777216) (h2 : follow < 16777216) :
  Fn Tryz.prog 155 #[.int .u32 number, .int .u32 follow, .slice A n c] K (Ret (fun _ : Option Addr × Nat => True) (fun q => .slice q.1 64 q.2) (fun q => own 5 1 q.1 64 q.2 (bytes (cellL number follow part)) :: K)) := by
 refine fe_ Tryz.func155 Tryz.ntmps155 [(0, .int .u32 number), (1, .int .u32 follow), (2, .slice A n c)] ?_
 have hle := h.le
 have hlen := h.len
 refine go_ ?_; refine al_ ?_; intro b; refine sl_sub (L' := wrb b none ([] : List Int).length 0 :: u8o none 0 [] :: K) (.cons .here (Sub.own_nil Sub.refl)) ?_; refine go_ ?_; refine sl_make (lo := .tmp 0) (i := default) (k := 8) (c := 8) (bytes := 1) (size := 1) (z := .int .u8 0) (e := 5) rfl rfl rfl (by kernel_rfl) (by decide) (by decide) (by decide) rfl ?_; intro gz; rw [made_u8 8 8 (by decide)]; refine slc_ rfl rfl sub_ (wRaw (K := own 5 1 (some ⟨gz, 0, none⟩) 8 8 (bytes (zs 8)) :: K) (bs := []) (xs := zs 8) (Vw.of_own (e := 5) .here) (by decide)) ?_; rintro ⟨A1, c1⟩ -; rw [List.nil_append]; refine go_ ?_; refine slc_ rfl rfl sub_ (wUint (K := K) (n := number) (k := 3) (by decide) (by omega) (by omega) (by rw [zs_len]; decide)) ?_; rintro ⟨A2, c2⟩ -; refine go_ ?_; refine slc_ rfl rfl sub_ (wUint (K := K) (n := follow) (k := 3) (by decide) (by omega) (by omega) (by simp only [List.length_append, zs_len, le_len]; decide)) ?_; rintro ⟨A3, c3⟩ -; refine go_ ?_; refine slc_ rfl rfl sub_ (wUint (K := K) (n := (n : Int)) (k := 2) (by decide) (by omega) (by omega) (by simp only [List.length_append, zs_len, le_len]; decide)) ?_; rintro ⟨A4, c4⟩ -; refine go_ ?_; refine slc_ rfl rfl sub_ (wRaw (K := K) (xs := part) h.vw (by simp only [List.length_append, zs_len, le_len]; omega)) ?_; rintro ⟨A5, c5⟩ -; refine go_ ?_
 refine sl_make (lo := .tmp 0) (i := default) (k := 48 - n) (c := 48 - n) (bytes := 1) (size := 1) (z := .int .u8 0) (e := 5) (by show some (Value.int _ _) = some (Value.int _ _); congr 2; omega) (by show some (Value.int _ _) = some (Value.int _ _); congr 2; omega) rfl (by kernel_rfl) (Nat.le_refl _) (by omega) (by unfold maxLen; omega) rfl ?_; intro gy; rw [made_u8 (48 - n) (48 - n) (Nat.le_refl _)]; refine slc_ rfl rfl sub_ (wRaw (K := own 5 1 (some ⟨gy, 0, none⟩) (48 - n) (48 - n) (bytes (zs (48 - n))) :: K) (xs := zs (48 - n)) (Vw.of_own (e := 5) .here) (by simp only [List.length_append, zs_len, le_len]; omega)) ?_; rintro ⟨A6, c6⟩ -
 have hw : zs 8 ++ le number 3 ++ le follow 3 ++ le n 2 ++ part ++ zs (48 - n) = zs 8 ++ bodyL number follow part := by rw [bodyL, hlen]; simp only [List.append_assoc]
 rw [hw]; refine go_ ?_
 have hbl := bodyL_len (number := number) (follow := follow) (part := part) (by omega)
 have hll : (zs 8 ++ bodyL number follow part).length = 64 := by rw [List.length_append, zs_len, hbl]
 refine slc_ rfl rfl sub_ (wBytes (K := K) (bs := zs 8 ++ bodyL number follow part) (by omega)) ?_; rintro ⟨A7, c7⟩ -
 have hcell : cellL number follow part = hashL 9 (bodyL number follow part) 8 ++ bodyL number follow part := rfl
 have hdr : (zs 8 ++ bodyL number follow part).drop 8 = bodyL number follow part := List.drop_left' zs_len
 have hbb : IsBytes (zs 8 ++ bodyL number follow part) := zs_bytes.app (bodyL_bytes h.okb)
 generalize zs 8 ++ bodyL number follow part = ws at hll hdr hbb ⊢
 rw [← hdr] at hcell
 show SL _ _ _ _ _ _ (own 5 1 A7 ws.length c7 (bytes ws) :: _)
 rw [hll]; refine sl_form (e := 5) (size := 1) (A := A7) (m := 64) at_ (by decide) ?_; rintro g7 rfl; refine sl_know (fun w hw => (own_len (e := 5) (size := 1) (A := some ⟨g7, 0, none⟩) hw at_).2) ?_; rintro ⟨l1, l2⟩; refine go_ ?_; refine slc_ rfl rfl Sub.refl (sum_ok (xs := ws) ⟨Vw.of_own (e := 5) (c := c7) at_, l1, by decide, l2, hll, hbb⟩ (by decide)) ?_; rintro ⟨A8, c8⟩ -; refine go_ ?_; refine sl_form (e := 5) (size := 1) (A := A8) (m := 8) at_ (by decide) ?_; rintro g8 rfl; refine sl_copy0 (e := 5) (size := 1) (k := 64) (c := c7) (xs := bytes ws) (cs := bytes (hashL 9 (ws.drop 8) 8)) (kk := 8) (o := 0) (g := g7) rfl pick_ rfl rfl rfl (by decide) (by rw [bytes_length, (hashL_ok _ _ _).1]) (own_cells (e := 5) (size := 1) (k := 8) (c := c8) (xs := bytes (hashL 9 (ws.drop 8) 8)) at_ Mid.all (by decide)) (by rw [bytes_length, (hashL_ok _ _ _).1]; decide) (one_bytes _) rfl ?_
 have hfin : (bytes ws).take 0 ++ bytes (hashL 9 (ws.drop 8) 8) ++ (bytes ws).drop (0 + (bytes (hashL 9 (ws.drop 8) 8)).length) = bytes (cellL number follow part) := by
  rw [hcell, bytes_app, List.take_zero, List.nil_append, bytes_length, (hashL_ok _ _ _).1]
  simp [bytes]
 rw [hfin]; refine go_ ?_; exact r1_ (some ⟨g7, 0, none⟩, c7)
theorem drop_part {bs : List Int} {i n : Nat} (h : bs.length = n) : (bs.drop (i * 48)).take (min ((i + 1) * 48) n - i * 48) = partL bs i := by
 unfold partL
 by_cases hc : (i + 1) * 48 ≤ n
 ·rw [Nat.min_eq_left hc]
  congr 1
  omega
 ·rw [Nat.min_eq_right (by omega), List.take_of_length_le (by rw [List.length_drop, h]; omega), List.take_of_length_le (by rw [List.length_drop, h]; omega)]
def LyA (K : List Fa) (number : Int) (bs : List Int) : Ending → World → Prop :=
 if number < 0 ∨ 1048576 ≤ number then Ret (fun _ : Unit => True) (fun _ => .tuple #[.slice none 0 0, .int .i64 6]) (fun _ => K)
 else if 65536 < bs.length then Ret (fun _ : Unit => True) (fun _ => .tuple #[.slice none 0 0, .int .i64 4]) (fun _ => K)
 else Ret (fun _ : Option Addr × Nat => True) (fun q => .tuple #[.slice q.1 (recL number.toNat bs).length q.2, .int .i64 0]) (fun q => u8o q.1 q.2 (recL number.toNat bs) :: K)
theorem Lay_ok {K : List Fa} {A : Option Addr} {n c : Nat} {number : Int} {bs : List Int} (h : Rd K A n c bs) (hnb : -9223372036854775808 ≤ number ∧ number ≤ 9223372036854775807) :
  Fn Tryz.prog 127 #[.int .i64 number, .slice A n c] K (LyA K number bs) := by
 refine fe_ Tryz.func127 Tryz.ntmps127 [(0, .int .i64 number), (1, .slice A n c)] ?_
 have hle := h.le
 have hlen := h.len
 have hbig := h.big
 unfold LyA
 by_cases h0 : number < 0
 ·rw [if_pos (.inl h0)]; refine go_ ?_; exact r2_ ()
 by_cases h1 : 1048576 ≤ number
 ·rw [if_pos (.inr h1)]; refine go_ ?_; exact r2_ ()
 rw [if_neg (by omega)]
 by_cases h2 : 65536 < n
 ·rw [if_pos (by omega)]; refine go_ ?_; exact r2_ ()
 rw [if_neg (by omega)]
 obtain ⟨k, rfl⟩ : ∃ k : Nat, number = k := ⟨number.toNat, by omega⟩
 rw [Int.toNat_natCast]; refine go_ ?_; refine slc_ rfl rfl sub_ (cells_ok (n := n) (by omega)) ?_; rintro _ -
 have hrec : recL k bs = recF k (manyL n) bs (manyL n) := by rw [recL, hlen]
 rw [hrec, recF_len]
 have hmb : manyL n ≤ 1366 := by unfold manyL; omega
 have hm1 : 1 ≤ manyL n := by unfold manyL; omega
 have hms : (manyL n - 1) * 48 ≤ n := by unfold manyL; omega
 generalize manyL n = many at hmb hm1 hms ⊢
 refine go_ ?_; refine sc_for (fun q : Wg => [(0, .int .i64 k), (1, .slice A n c), (6, .int .i64 many), (7, .slice q.A (q.j * 64) q.c), (24, .int .i64 many), (25, .int .i64 q.j)]) (fun q => own 5 1 q.A (q.j * 64) q.c (bytes (recF k many bs q.j)) :: K) (fun q => q.j ≤ many) (fun q => many - q.j) ⟨0, none, 0⟩ has_ (Sub.own_nil Sub.refl) (Nat.zero_le _) ?_; rintro ⟨i, B, cb⟩ hi
 replace hi : i ≤ many := hi
 dsimp only
 by_cases hlt : i < many
 ·have hin : i * 48 ≤ n := by
   have : i * 48 ≤ (many - 1) * 48 := Nat.mul_le_mul_right _ (by omega)
   omega
  have hmn : (if (n : Int) < ((i : Int) + 1) * 48 then (n : Int) else ((i : Int) + 1) * 48) = ((min ((i + 1) * 48) n : Nat) : Int) := by split <;> omega
  have hr := (h.next (k := i * 48) hin).front (m := min ((i + 1) * 48) n - i * 48) (by omega)
  rw [drop_part hlen] at hr
  refine go_ ?_; rw [hmn]; rw [show ((i : Int) * 48).toNat = i * 48 by omega, Int.toNat_natCast]
  have e1 : (k : Int) + i = ((k + i : Nat) : Int) := by omega
  have e2 : (many : Int) - 1 - i = ((many - 1 - i : Nat) : Int) := by omega
  rw [e1, e2]; refine slc_ rfl rfl Sub.refl (layP_ok (number := k + i) (follow := many - 1 - i) (hr.mono sub_) (by omega) (by omega) (by omega)) ?_; rintro ⟨B2, cb2⟩ -; refine sl_app rfl pick_ rfl (Vw.of_own (e := 5) (c := cb2) at_) (one_bytes _) rfl Tryz.info5 (by decide) (by decide) rfl (by unfold maxLen; omega) (by omega) ?_; intro B3 cb3; rw [← bytes_app, show i * 64 + 64 = (i + 1) * 64 by omega]; refine go_ ?_; exact se_round ⟨i + 1, B3, cb3⟩ has_ sub_ hlt (by show many - (i + 1) < many - i; omega)
 obtain rfl : i = many := by omega
 refine go_ ?_; refine se_ret2 (B, cb) trivial rfl rfl rfl rfl ?_
 show Sub _ (own 5 1 B (recF k i bs i).length cb (bytes (recF k i bs i)) :: K)
 rw [recF_len]; exact sub_
end
attribute [local irreducible] hashL
theorem recL_len {k : Nat} {bs : List Int} : (recL k bs).length = manyL bs.length * 64 := recF_len
theorem recL_bytes {k : Nat} {bs : List Int} (h : IsBytes bs) : IsBytes (recL k bs) := recF_bytes h
def cellsA (ls : List (List Int)) : Nat := (ls.map fun x => manyL x.length).sum
def allL (ls : List (List Int)) : List Int := ls.foldl (fun b x => b ++ recL (b.length / 64) x) []
theorem allL_snoc (ls : List (List Int)) (x : List Int) : allL (ls ++ [x]) = allL ls ++ recL ((allL ls).length / 64) x := by simp [allL]
theorem cellsA_snoc (ls : List (List Int)) (x : List Int) : cellsA (ls ++ [x]) = cellsA ls + manyL x.length := by simp [cellsA]
theorem snoc_ind {α : Type} {P : List α → Prop} (h0 : P []) (h1 : ∀ l x, P l → P (l ++ [x])) (l : List α) : P l := by
 have h : ∀ r : List α, P r.reverse := by
  intro r
  induction r with
  | nil => exact h0
  | cons a r ih => rw [List.reverse_cons]; exact h1 _ _ ih
 have := h l.reverse
 rwa [List.reverse_reverse] at this
theorem allL_len (ls : List (List Int)) : (allL ls).length = cellsA ls * 64 := by
 refine snoc_ind (P := fun ls => (allL ls).length = cellsA ls * 64) rfl (fun l x ih => ?_) ls
 rw [allL_snoc, cellsA_snoc, List.length_append, ih, recL_len]; omega
theorem allL_next (ls : List (List Int)) (x : List Int) : allL (ls ++ [x]) = allL ls ++ recL (cellsA ls) x := by
 rw [allL_snoc, allL_len]
 congr 2
 omega
theorem allL_bytes (ls : List (List Int)) : (∀ x ∈ ls, IsBytes x) → IsBytes (allL ls) := by
 refine snoc_ind (P := fun ls => (∀ x ∈ ls, IsBytes x) → IsBytes (allL ls)) (fun _ x hx => by cases hx) (fun l x ih h => ?_) ls
 rw [allL_snoc]; exact (ih fun y hy => h y (List.mem_append_left _ hy)).app (recL_bytes (h x (by simp)))
structure Bx where
 A : Option Addr
 c : Nat
 l : List Int
def Bx.v (s : Bx) : Value := .slice s.A s.l.length s.c
structure LsV (K : List Fa) (R : Option Addr) (xs : List Bx) : Prop where
 vw : Vw K (fun w => Reads w 1 R xs.length (xs.map Bx.v))
 el : ∀ x ∈ xs, Rd K x.A x.l.length x.c x.l
theorem LsV.mono {K K' : List Fa} {R : Option Addr} {xs : List Bx} (h : LsV K R xs) (hs : Sub K' K) : LsV K' R xs := ⟨h.vw.mono hs, fun x hx => (h.el x hx).mono hs⟩
section
theorem hash_len8 {bs : List Int} : (hashL 9 bs 8).length = 8 := (hashL_ok 9 bs 8).1
theorem cell_says {number follow : Nat} {part : List Int} (hp : part.length ≤ 48) (h1 : number < 16777216) (h2 : follow < 16777216) : saysL (bodyL number follow part) number = some (follow, part) := by
 have e1 : (bodyL number follow part).take 3 = le number 3 := by
  unfold bodyL
  rw [List.append_assoc, List.append_assoc, List.append_assoc, List.take_left' (le_len _ _)]
 have e2 : (bodyL number follow part).drop 3 = le follow 3 ++ (le part.length 2 ++ (part ++ zs (48 - part.length))) := by
  unfold bodyL
  rw [List.append_assoc, List.append_assoc, List.append_assoc, List.drop_left' (le_len _ _)]
 have e3 : (bodyL number follow part).drop 6 = le part.length 2 ++ (part ++ zs (48 - part.length)) := by
  rw [show 6 = 3 + 3 from rfl, ← List.drop_drop, e2, List.drop_left' (le_len _ _)]
 have e4 : (bodyL number follow part).drop 8 = part ++ zs (48 - part.length) := by
  rw [show 8 = 6 + 2 from rfl, ← List.drop_drop, e3, List.drop_left' (le_len _ _)]
 have v1 : leV ((bodyL number follow part).take 3) = number := by
  rw [e1, leV_le _ (by omega)]; exact Int.emod_eq_of_lt (by omega) (by omega)
 have v2 : leV (((bodyL number follow part).drop 3).take 3) = follow := by
  rw [e2, List.take_left' (le_len _ _), leV_le _ (by omega)]; exact Int.emod_eq_of_lt (by omega) (by omega)
 have v3 : leV (((bodyL number follow part).drop 6).take 2) = part.length := by
  rw [e3, List.take_left' (le_len _ _), leV_le _ (by omega)]; exact Int.emod_eq_of_lt (by omega) (by omega)
 rw [saysL_eq (by rw [v3]; omega) v1 v3 v2, e4, List.take_of_length_le (l := part ++ zs (48 - part.length)) (by rw [List.length_append, zs_len]; omega), List.drop_left, List.take_left]; rw [if_pos]; rw [List.all_eq_true]; intro x hx
 have := List.eq_of_mem_replicate hx
 subst this
 rfl
attribute [local semireducible] takeL in
theorem take_cell {pre post : List Int} {number follow : Nat} {part : List Int} (hpre : pre.length = number * 64) (hp : part.length ≤ 48) (h1 : number < 16777216) (h2 : follow < 16777216) : takeL (pre ++ cellL number follow part ++ post) number = some (follow, part) := by
 have hc := cellL_len (number := number) (follow := follow) hp
 have e1 : cutL (pre ++ cellL number follow part ++ post) number = cellL number follow part := by
  unfold cutL
  rw [List.append_assoc, List.drop_left' hpre, List.take_left' hc]
 unfold takeL
 rw [if_neg (by simp only [List.length_append, hpre, hc]; omega), e1]
 have e2 : (cellL number follow part).drop 8 = bodyL number follow part := List.drop_left' hash_len8
 have e3 : (cellL number follow part).take 8 = hashL 9 (bodyL number follow part) 8 := List.take_left' hash_len8
 rw [e2, e3, if_neg (fun h => h rfl), cell_says hp h1 h2]
end
end
section
open Go.RowKit Go.ChangeShapes Go.WideShapes Go.Deep
def Bx.ok (w : World) (b : Bx) : Prop := Reads w 1 b.A b.l.length (bytes b.l) ∧ IsBytes b.l ∧ b.l.length ≤ b.c ∧ b.c ≤ maxLen
instance : Inhabited Bx := ⟨⟨none, 0, []⟩⟩
structure LsW (w : World) (R : Option Addr) (xs : List Bx) : Prop where
 vw : Reads w 1 R xs.length (xs.map Bx.v)
 el : ∀ x ∈ xs, x.ok w
section
variable {H : Type} {enc : TypeId × Value → H} {w : World} {base : Nat} {spare : Nat → Bool} {held : Bool} {fuel : Nat} {cs : List Value} {x : DataW H × List MemPlace}
end
theorem Bx.ok.rd {w : World} {b : Bx} (h : b.ok w) (hl : b.l.length ≤ 70368744177664) : Rd [old w] b.A b.l.length b.c b.l := ⟨Vw.of_old .here h.1, h.2.2.1, hl, h.2.2.2, rfl, h.2.1⟩
theorem LsW.to {w : World} {R : Option Addr} {xs : List Bx} (h : LsW w R xs) (hl : ∀ x ∈ xs, x.l.length ≤ 70368744177664) : LsV [old w] R xs := ⟨Vw.of_old .here h.vw, fun x hx => (h.el x hx).rd (hl x hx)⟩
def Sx.bx (s : Sx) : Bx := ⟨s.A, s.c, s.l⟩
theorem star_at {w : World} {f : Fa} {G L : List Fa} (hw : Sep w L) (hs : At (star G) L) (hf : f ∈ G) : f.P w := by
 have h1 := hw.at hs
 unfold star at h1
 exact h1.mem hf
theorem SRow.ls {K : List Fa} {q : SRow} (hr : At q.row K) (hs : At q.st K) (hok : ∀ x ∈ q.xs, x.ok) : LsV K q.R (q.xs.map Sx.bx) := by
 refine ⟨fun w hw => ?_, fun x hx => ?_⟩
 ·have h1 := Vw.of_own hr w hw
  have h2 : (q.xs.map Sx.bx).map Bx.v = sxV q.xs := by simp [sxV, Sx.bx, Bx.v, Sx.v]
  rw [h2, List.length_map]; exact h1
 ·obtain ⟨s, hs', rfl⟩ := List.mem_map.1 hx
  obtain ⟨⟨o1, o2⟩, o3, o4⟩ := hok s hs'
  refine ⟨fun w hw => ?_, o1, by show s.l.length ≤ _; omega, o2, rfl, o4⟩
  have h1 : (own 5 1 s.A s.l.length s.d (bytes s.l)).P w := star_at hw hs (List.mem_map.2 ⟨s, hs', rfl⟩)
  unfold own at h1
  exact Reads.of_own h1
end
section
open Go
attribute [local irreducible] takeL recordL hashL cellL
section
theorem recF_split {number many : Nat} {bs : List Int} {i : Nat} : ∀ {j : Nat}, i < j → ∃ rest, recF number many bs j = recF number many bs i ++ cellL (number + i) (many - 1 - i) (partL bs i) ++ rest
 | 0, h => absurd h (Nat.not_lt_zero _)
 | j + 1, h => by
  by_cases hj : i = j
  ·subst hj; exact ⟨[], by rw [recF, List.append_nil]⟩
  ·obtain ⟨rest, hr⟩ := recF_split (number := number) (many := many) (bs := bs) (i := i) (j := j) (by omega)
   exact ⟨rest ++ cellL (number + j) (many - 1 - j) (partL bs j), by rw [recF, hr]; simp only [List.append_assoc]⟩
theorem take_rec {pre post bs : List Int} {number i : Nat} (hpre : pre.length = number * 64) (hi : i < manyL bs.length) (h1 : number + manyL bs.length < 16777216) : takeL (pre ++ recL number bs ++ post) (number + i) = some (manyL bs.length - 1 - i, partL bs i) := by
 obtain ⟨rest, hr⟩ := recF_split (number := number) (many := manyL bs.length) (bs := bs) hi
 have e : pre ++ recL number bs ++ post = (pre ++ recF number (manyL bs.length) bs i) ++ cellL (number + i) (manyL bs.length - 1 - i) (partL bs i) ++ (rest ++ post) := by
  unfold recL
  rw [hr]
  simp only [List.append_assoc]
 rw [e]; exact take_cell (by rw [List.length_append, hpre, recF_len]; omega) partL_len (by omega) (by omega)
theorem go_rec {pre post bs : List Int} {number : Nat} (hpre : pre.length = number * 64) (h1 : number + manyL bs.length < 16777216) : ∀ {left i : Nat}, i + left + 1 = manyL bs.length → goL (pre ++ recL number bs ++ post) number left i (bs.take ((i + 1) * 48)) = some bs
 | 0, i, h => by
  rw [goL, List.take_of_length_le]
  unfold manyL at h
  omega
 | left + 1, i, h => by
  have ht := take_rec (post := post) (i := i + 1) hpre (by omega) h1
  have hm : (i + 1) * 48 ≤ bs.length := by
   unfold manyL at h
   omega
  rw [goL, show number + 1 + i = number + (i + 1) by omega, ht]
  have hf : manyL bs.length - 1 - (i + 1) = left := by omega
  have hl : (bs.take ((i + 1) * 48)).length = (i + 1) * 48 := by rw [List.length_take]; omega
  have ha : bs.take ((i + 1) * 48) ++ partL bs (i + 1) = bs.take ((i + 1 + 1) * 48) := by
   unfold partL
   rw [show (i + 1 + 1) * 48 = (i + 1) * 48 + 48 by omega, List.take_add]
  show (if manyL bs.length - 1 - (i + 1) = left ∧ (bs.take ((i + 1) * 48)).length = (i + 1) * 48 then goL _ number left (i + 1) (bs.take ((i + 1) * 48) ++ partL bs (i + 1)) else none) = some bs
  rw [if_pos ⟨hf, hl⟩, ha]; exact go_rec hpre h1 (by omega)
attribute [local semireducible] recordL in
theorem rec_rec {pre post bs : List Int} {number : Nat} (hpre : pre.length = number * 64) (h1 : number + manyL bs.length < 16777216) (hb : bs.length ≤ 65536) : recordL (pre ++ recL number bs ++ post) number = some (bs, manyL bs.length) := by
 have hm1 : 1 ≤ manyL bs.length := by unfold manyL; omega
 have hm2 : manyL bs.length ≤ 1366 := by unfold manyL; omega
 have ht := take_rec (post := post) (i := 0) hpre (by omega) h1
 rw [Nat.add_zero] at ht
 have hg := go_rec (post := post) hpre h1 (left := manyL bs.length - 1) (i := 0) (by omega)
 have hp : partL bs 0 = bs.take ((0 + 1) * 48) := by unfold partL; simp
 unfold recordL
 rw [ht, Nat.sub_zero, hp]
 show (if manyL bs.length - 1 < 1366 then (goL (pre ++ recL number bs ++ post) number (manyL bs.length - 1) 0 (bs.take ((0 + 1) * 48))).map (fun out => (out, manyL bs.length - 1 + 1)) else none) = _
 rw [if_pos (by omega), hg]
 show some (bs, manyL bs.length - 1 + 1) = _
 rw [Nat.sub_add_cancel hm1]
theorem chain_all (ls : List (List Int)) : (∀ x ∈ ls, x.length ≤ 65536) → cellsA ls < 16777216 → ∀ post, chainL (allL ls ++ post) ls.length = some (cellsA ls, ls) := by
 refine snoc_ind (P := fun ls => (∀ x ∈ ls, x.length ≤ 65536) → cellsA ls < 16777216 → ∀ post, chainL (allL ls ++ post) ls.length = some (cellsA ls, ls)) (fun _ _ _ => rfl) (fun l x ih h hc post => ?_) ls
 rw [cellsA_snoc] at hc
 have h1 := ih (fun y hy => h y (List.mem_append_left _ hy)) (by omega) (recL (cellsA l) x ++ post)
 rw [List.length_append, List.length_singleton, chainL, allL_next, List.append_assoc, h1]
 have h2 := rec_rec (pre := allL l) (post := post) (bs := x) (number := cellsA l) (allL_len l) (by omega) (h x (by simp))
 rw [List.append_assoc] at h2
 simp only [h2, cellsA_snoc]
attribute [local semireducible] takeL in
theorem take_out {bs : List Int} {k : Nat} (h : bs.length < (k + 1) * 64) : takeL bs k = none := if_pos h
attribute [local semireducible] recordL in
theorem rec_out {bs : List Int} {k : Nat} (h : bs.length < (k + 1) * 64) : recordL bs k = none := by
 unfold recordL
 rw [take_out h]
end
end
section
open Go.RowKit
attribute [local irreducible] Go.Calls Go.Exit.then Go.Exit.inBlock Go.bodyPost Go.Code.wp Go.wpList takeL recordL hashL recL allL
theorem LyA_ok {K : List Fa} {k : Nat} {bs : List Int} (h : k < 1048576) (hb : bs.length ≤ 65536) : LyA K k bs = Ret (fun _ : Option Addr × Nat => True) (fun q => .tuple #[.slice q.1 (recL k bs).length q.2, .int .i64 0]) (fun q => u8o q.1 q.2 (recL k bs) :: K) := by
 unfold LyA
 rw [if_neg (by omega), if_neg (by omega), Int.toNat_natCast]
end
section
open Go.RowKit Go.MapKept
attribute [local irreducible] Go.Calls Go.Exit.then Go.Exit.inBlock Go.bodyPost Go.Code.wp Go.wpList
structure DF where
 s : ByteArray
 A : Option Addr
 c : Nat
 l : List Int
 sy : Nat
 bn : Nat
def DF.val (f : DF) : Value := .agg #[.slice f.A f.l.length f.c, .int .i64 f.sy]
def DF.ent (f : DF) : MapEntry := ⟨.string f.s, f.val, f.bn⟩
abbrev DF.fa (f : DF) : Fa := u8o f.A f.c f.l
def DF.ok (f : DF) : Prop := f.sy ≤ f.l.length ∧ IsBytes f.l
abbrev dB (g m : Nat) (lim : Int) : Fa := blk g 115 [.map (some m), .int .i64 lim]
abbrev dM (m : Nat) (fs : List DF) (ck : Nat) : Fa := mp m .string (fs.map DF.ent) ck
abbrev dS (fs : List DF) : Fa := star (fs.map DF.fa)
def DHas (fs : List DF) (s : ByteArray) : Prop := ∃ f ∈ fs, f.s = s
theorem dget {fs : List DF} {f : DF} (h : f ∈ fs) : MGet (fs.map DF.ent) (.string f.s) f.val := ⟨f.ent, List.mem_map.2 ⟨f, h, rfl⟩, rfl, rfl⟩
theorem dno {fs : List DF} {s : ByteArray} (h : ¬ DHas fs s) : MNo (fs.map DF.ent) (.string s) := fun e he hk => by
 obtain ⟨f, hf, rfl⟩ := List.mem_map.1 he
 have hk' : Value.string f.s = .string s := hk
 injection hk' with hk'
 exact h ⟨f, hf, hk'⟩
theorem star_get {f : Fa} {G L : List Fa} (h : At (star G) L) (hf : f ∈ G) : Vw L f.P := fun w hw => by
 have h1 := hw.at h
 unfold star at h1
 exact h1.mem hf
theorem star_pull {A B K : List Fa} {f : Fa} : Ent_ (star (A ++ f :: B) :: K) (f :: star (A ++ B) :: K) := fun w hw => by
 have h1 := star_out w hw
 rw [List.append_assoc, List.cons_append] at h1
 have h2 := (pick_mid A).out w h1
 rw [← List.append_assoc] at h2
 exact Ent_.tail star_in (fun k hk => by
   rcases foot_cons.1 hk with e | e
   · unfold star at e
     obtain ⟨y, hy, hk⟩ := e
     exact ⟨y, List.mem_append_left _ hy, hk⟩
   · obtain ⟨y, hy, hk⟩ := e
     exact ⟨y, List.mem_append_right _ hy, hk⟩) w h2
theorem star_push {A B K : List Fa} {f : Fa} : Ent_ (f :: star (A ++ B) :: K) (star (A ++ f :: B) :: K) := fun w hw => by
 refine star_in w ?_; rw [List.append_assoc, List.cons_append]; refine (pick_mid A).back w ?_; rw [← List.append_assoc]
 exact Ent_.tail star_out (fun k hk => by
   obtain ⟨y, hy, hk⟩ := hk
   rcases List.mem_append.1 hy with e | e
   · exact foot_cons.2 (.inl (by unfold star; exact ⟨y, e, hk⟩))
   · exact foot_cons.2 (.inr ⟨y, e, hk⟩)) w hw
def chB (c : UInt8) : Bool := (97 ≤ c && c ≤ 122) || (48 ≤ c && c ≤ 57) || c == 46 || c == 45
def nameB (s : ByteArray) : Bool := decide (1 ≤ s.size ∧ s.size ≤ 16) && s.data.toList.all chB
theorem str_at {s : ByteArray} {i : Nat} (h : i < s.size) : s[((i : Nat) : Int).toNat]? = some s[i] := by
 rw [Int.toNat_natCast]; exact getElem?_pos s i h
theorem ch_cases (c : UInt8) : (c.toNat < 45 ∧ chB c = false) ∨ (c.toNat = 45 ∧ chB c = true) ∨ (c.toNat = 46 ∧ chB c = true) ∨ (c.toNat = 47 ∧ chB c = false) ∨ ((48 ≤ c.toNat ∧ c.toNat ≤ 57) ∧ chB c = true) ∨ ((58 ≤ c.toNat ∧ c.toNat ≤ 96) ∧ chB c = false) ∨ ((97 ≤ c.toNat ∧ c.toNat ≤ 122) ∧ chB c = true) ∨ (123 ≤ c.toNat ∧ chB c = false) := by
 have h : c.toNat < 256 := c.toNat_lt
 obtain ⟨n, hn⟩ : ∃ n, c.toNat = n := ⟨_, rfl⟩
 have hc : c = UInt8.ofNat n := by rw [← hn]; simp
 rw [hn] at h ⊢
 subst hc
 clear hn
 revert n
 decide
theorem all_snoc {s : ByteArray} {i : Nat} (h : i < s.size) : (s.data.toList.take (i + 1)).all chB = ((s.data.toList.take i).all chB && chB s[i]) := by
 rw [List.take_succ_eq_append_getElem (by simpa using h), List.all_append]
 simp
 rfl
theorem all_not {s : ByteArray} {i : Nat} (h : i < s.size) (hc : chB s[i] = false) : s.data.toList.all chB = false := by
 rw [Bool.eq_false_iff]; intro ha
 rw [List.all_eq_true] at ha
 have := ha s[i] (by
   have : s[i] ∈ s.data := Array.getElem_mem _
   simpa using this)
 rw [hc] at this
 cases this
section
theorem ff_one {A : Option Addr} {n c : Nat} {k : IntKind} {s : Int} : ∀ v ∈ [Value.slice A n c, .int k s], v.oneCell' = true := by
 intro v hv
 simp only [List.mem_cons, List.not_mem_nil, or_false] at hv
 rcases hv with rfl | rfl <;> rfl
theorem pu_field2 {P : Program} {C : World → Prop} {n : Nat} {l : Env} {ty t : TypeId} {x : Operand} {cs : List Value} {i o : Nat} {fs : List Field} {f : Field} {v : Value} (hx : ev l x = some (.agg cs.toArray)) (ht : P.underlying t = some (.struct fs.toArray)) (hf : fs[i]? = some f) (ho : f.offset = o) (hp : plainT P f.type = true) (hn : nth cs o = some v) : Pu P C n l (.field t x i) ty v := by
 unfold Pu
 intro a _ _ _ _ W hs _
 obtain ⟨⟨d, hu, hagg⟩, _⟩ := plainT_spec hp
 subst ho
 rw [nth_eq] at hn
 simp only [execOp, hs.ev hx]
 simp [Instr.field, run_underlying ht, hf, part, asAgg, hagg, hn]
theorem sub_dS0 {L L' : List Fa} (h : Sub L L') : Sub L (dS [] :: L') := by
 show Sub L (star [] :: L')
 exact .free (fun w => by unfold star; exact (Sep.start w).sub Sub.nil) (fun j hj => by unfold star at hj; exact foot_nil hj) h
namespace pDk2
theorem onex_ (h : φ := by first | exact one_bytes _ | exact ff_one) : φ := h
end pDk2
open pDk2
theorem clone_ok {K : List Fa} {A : Option Addr} {n c : Nat} {bs : List Int} (hr : Vw K (fun w => Reads w 1 A n (bytes bs))) (hn : n ≤ 70368744177664) :
  Fn Tryz.prog 51 #[.slice A n c] K (Ret (fun _ : Option Addr × Nat => True) (fun q => .slice q.1 n q.2) (fun q => own 5 1 q.1 n q.2 (bytes bs) :: K)) := by
 refine fe_ Tryz.func51 Tryz.ntmps51 [(0, .slice A n c)] ?_
 cases A with
 | none =>
  refine sc_know (φ := n = 0) (fun w hw => ?_) ?_
  ·rcases Nat.eq_zero_or_pos n with h | h
   ·exact h
   ·obtain ⟨ad, h1, _⟩ := (hr w hw).2 h
    cases h1
  intro h0; subst h0; refine sc_know (vw_len hr) ?_; intro hl
  obtain rfl : bs = [] := List.eq_nil_of_length_eq_zero hl
  refine go_ ?_; exact se_ret1 (none, 0) trivial rfl rfl (Sub.own_nil Sub.refl)
 | some a =>
  refine go_ ?_; refine sl_build0 (e := 5) (size := 1) rfl (fun W => by kernel_rfl) rfl ?_; intro g0; refine go_ ?_; refine sl_app rfl pick_ rfl (hr.mono sub_) (one_bytes _) rfl Tryz.info5 (by decide) (by decide) rfl (by unfold maxLen; omega) (by omega) ?_; intro A2 c2; rw [Nat.zero_add, List.nil_append]; refine go_ ?_; exact r1_ (A2, c2)
def limL (x : Int) : Int := if 1048576 < (if x < 0 then 0 else x) then 1048576 else (if x < 0 then 0 else x)
theorem newD_ok {K : List Fa} {x : Int} :
  Fn Tryz.prog 8 #[.int .i64 x] K (Ret (fun _ : Nat × Nat => True) (fun q => .pointer (some ⟨q.1, 0, none⟩)) (fun q => dB q.1 q.2 (limL x) :: dM q.2 [] 0 :: dS [] :: K)) := by
 refine fe_ Tryz.func8 Tryz.ntmps8 [(0, .int .i64 x)] ?_
 have hl : limL x = if 1048576 < (if x < 0 then 0 else x) then 1048576 else (if x < 0 then 0 else x) := rfl
 refine go_ ?_; refine sl_makeMap (d := .string) rfl ?_; intro m; refine go_ ?_; rw [← hl]
 generalize limL x = lim
 refine sl_pu (pu_build (v := .agg #[.map (some m), .int .i64 lim]) rfl (fun W => by kernel_rfl)) rfl ?_; refine bx_ ?_; intro g; refine go_ ?_; exact se_ret1 (g, m) trivial rfl rfl (.cons .here (.cons .here (sub_dS0 .refl)))
theorem has_yes {K : List Fa} {g m ck : Nat} {lim : Int} {fs : List DF} {f : DF} (hB : At (dB g m lim) K) (hM : At (dM m fs ck) K) (hf : f ∈ fs) :
  Fn Tryz.prog 57 #[.pointer (some ⟨g, 0, none⟩), .string f.s] K (Ret (fun _ : Unit => True) (fun _ => .bool true) (fun _ => K)) := by
 refine fe_ Tryz.func57 Tryz.ntmps57 [(0, .pointer (some ⟨g, 0, none⟩)), (1, .string f.s)] ?_
 have hg := dget hf
 unfold DF.val at hg
 refine go_ ?_; refine al_ ?_; intro g5; refine go_ ?_; exact r1_ ()
theorem has_no {K : List Fa} {g m ck : Nat} {lim : Int} {fs : List DF} {s : ByteArray} (hB : At (dB g m lim) K) (hM : At (dM m fs ck) K) (hf : ¬ DHas fs s) :
  Fn Tryz.prog 57 #[.pointer (some ⟨g, 0, none⟩), .string s] K (Ret (fun _ : Unit => True) (fun _ => .bool false) (fun _ => K)) := by
 refine fe_ Tryz.func57 Tryz.ntmps57 [(0, .pointer (some ⟨g, 0, none⟩)), (1, .string s)] ?_
 have hg := dno hf
 refine go_ ?_; refine al_ ?_; intro g5; refine go_ ?_; exact r1_ ()
end

section
theorem own_PD {e : TypeId} {size n c : Nat} {A : Option Addr} {xs : List Value} {w : World} (h : (own e size A n c xs).P w) : w.ownsRow 0 e size (.slice A n c) n xs := by
 unfold own at h
 exact h
section
variable {P : Program} {ops : Array Oper} {Q : Exit → Act → World → Prop} {n : Nat} {l : Env} {L L' : List Fa} {rest : List Oper} {ty t kt e : TypeId} {pos : String} {after : Array Edge} {x y u : Operand} {m ck : Nat} {X Y fs : List DF} {f f' : DF} {K : List Fa}
theorem dM_split : dM m (X ++ f :: Y) ck = mp m .string (X.map DF.ent ++ f.ent :: Y.map DF.ent) ck := by
 show mp m .string ((X ++ f :: Y).map DF.ent) ck = _
 rw [List.map_append, List.map_cons]
theorem sl_dput (hx : ev l x = some (.map (some m))) (hy : ev l y = some (.string f.s)) (hu : ev l u = some f'.val) (hs : f'.s = f.s) (hb : f'.bn = f.bn) (hp : Pick (dM m (X ++ f :: Y) ck) L L') (ht : P.underlying t = some (.map kt e)) (hd : P.underlying kt = some .string)
  (h : SL P ops Q rest n l (dM m (X ++ f' :: Y) ck :: L')) : SL P ops Q (⟨none, .mapUpdate t x y u, ty, pos, after, none⟩ :: rest) n l L := by
 rw [dM_split] at hp h
 refine sl_mapPut (me := f.ent) hx hy hu hp ht hd True.intro ?_
 have he : (⟨f.ent.key, f'.val, f.ent.born⟩ : MapEntry) = f'.ent := by
  unfold DF.ent
  rw [hs, hb]
 rw [he]; exact h
theorem sl_dnew {s : ByteArray} (hx : ev l x = some (.map (some m))) (hy : ev l y = some (.string s)) (hu : ev l u = some f'.val) (hs : f'.s = s) (hb : f'.bn = ck) (hn : ¬ DHas fs s) (hp : Pick (dM m fs ck) L L') (ht : P.underlying t = some (.map kt e)) (hd : P.underlying kt = some .string)
  (h : SL P ops Q rest n l (dM m (fs ++ [f']) (ck + 1) :: L')) : SL P ops Q (⟨none, .mapUpdate t x y u, ty, pos, after, none⟩ :: rest) n l L := by
 refine sl_mapNew hx hy hu hp ht hd True.intro (dno hn) ?_
 have he : fs.map DF.ent ++ [(⟨.string s, f'.val, ck⟩ : MapEntry)] = (fs ++ [f']).map DF.ent := by
  rw [List.map_append]
  unfold DF.ent
  simp [hs, hb]
 rw [he]; exact h
theorem ds_swap : Ent_ (f'.fa :: dS (X ++ f :: Y) :: K) (dS (X ++ f' :: Y) :: K) := fun w hw => by
 have e1 : dS (X ++ f :: Y) = star (X.map DF.fa ++ f.fa :: Y.map DF.fa) := by
  show star _ = _
  rw [List.map_append, List.map_cons]
 have e2 : dS (X ++ f' :: Y) = star (X.map DF.fa ++ f'.fa :: Y.map DF.fa) := by
  show star _ = _
  rw [List.map_append, List.map_cons]
 rw [e1] at hw
 rw [e2]
 have h1 : Sep w (star (X.map DF.fa ++ f.fa :: Y.map DF.fa) :: f'.fa :: K) := hw.sub (Sub.cons (Pick.there Pick.here) (Sub.cons Pick.here Sub.refl))
 have h2 := star_pull w h1
 have h3 : Sep w (f'.fa :: star (X.map DF.fa ++ Y.map DF.fa) :: K) := h2.sub (Sub.cons (Pick.there (Pick.there Pick.here)) (Sub.skip (Sub.cons Pick.here Sub.refl)))
 exact star_push w h3
theorem ds_new : Ent_ (f'.fa :: dS fs :: K) (dS (fs ++ [f']) :: K) := fun w hw => by
 have e2 : dS (fs ++ [f']) = star (fs.map DF.fa ++ f'.fa :: []) := by
  show star _ = _
  rw [List.map_append, List.map_cons, List.map_nil]
 rw [e2]; refine star_push w ?_; rw [List.append_nil]; exact hw
theorem ds_sy {k : Nat} : dS (X ++ { f with sy := k } :: Y) = dS (X ++ f :: Y) := by
 show star _ = star _
 rw [List.map_append, List.map_append, List.map_cons, List.map_cons]
theorem ds_get (h : At (dS fs) L) (hf : f ∈ fs) : Vw L (fun w => Reads w 1 f.A f.l.length (bytes f.l)) := fun w hw => Reads.of_own (own_PD (star_get h (List.mem_map.2 ⟨f, hf, rfl⟩) w hw))
theorem mid_mem : f ∈ X ++ f :: Y := by simp
end
def usedN (fs : List DF) : Nat := (fs.map (·.l.length)).sum
theorem used_app {X Y : List DF} : usedN (X ++ Y) = usedN X + usedN Y := by simp [usedN]
theorem used_cons {f : DF} {Y : List DF} : usedN (f :: Y) = f.l.length + usedN Y := by simp [usedN]
theorem used_le {f : DF} {fs : List DF} (h : f ∈ fs) : f.l.length ≤ usedN fs := by
 obtain ⟨X, Y, rfl⟩ := List.append_of_mem h
 rw [used_app, used_cons]; omega
theorem used_perm {us fs : List DF} (h : us.Perm fs) : usedN us = usedN fs := (h.map _).sum_nat
theorem mp_nodup {L : List Fa} {m ck : Nat} {fs : List DF} (h : At (dM m fs ck) L) : ∀ w, Sep w L → fs.Nodup ∧ fs.Pairwise (fun a b => a.s ≠ b.s) := fun w hw => by
 have h1 : MapP m .string (fs.map DF.ent) ck w := mp_P ▸ hw.at h
 have h3 := ((stamped_iff _ _).1 h1.2.1).2.2
 rw [List.toList_toArray, List.pairwise_map] at h3
 have h4 : fs.Pairwise (fun a b => a.s ≠ b.s) := h3.imp (fun {a b} hab e => hab (congrArg Value.string e))
 exact ⟨h4.imp (fun {a b} hab e => hab (congrArg DF.s e)), h4⟩
theorem sub_split {α : Type} {us fs : List α} (h1 : us.Nodup) (h2 : fs.Nodup) (hs : ∀ u ∈ us, u ∈ fs) : ∃ z, (us ++ z).Perm fs := by
 classical
 refine ⟨fs.filter (fun x => decide (x ∉ us)), (List.perm_ext_iff_of_nodup (List.nodup_append.2 ⟨h1, h2.filter _, fun a ha b hb e => ?_⟩) h2).2 fun x => ?_⟩
 ·subst e
  simp only [List.mem_filter, decide_eq_true_eq] at hb
  exact hb.2 ha
 ·simp only [List.mem_append, List.mem_filter, decide_eq_true_eq]
  refine ⟨fun h => h.elim (hs x) (·.1), fun h => ?_⟩
  by_cases hx : x ∈ us
  ·exact .inl hx
  ·exact .inr ⟨h, hx⟩
theorem ent_inj {a b : DF} {fs : List DF} (hn : fs.Pairwise (fun a b => a.s ≠ b.s)) (ha : a ∈ fs) (hb : b ∈ fs) (h : a.ent = b.ent) : a = b := by
 have hk : Value.string a.s = .string b.s := congrArg MapEntry.key h
 injection hk with hk
 exact pw_one (f := DF.s) hn ha hb hk
open pDk2
theorem name_ok {K : List Fa} {s : ByteArray} (hs : s.size ≤ 9223372036854775807) :
  Fn Tryz.prog 156 #[.string s] K (Ret (fun _ : Unit => True) (fun _ => .bool (nameB s)) (fun _ => K)) := by
 refine fe_ Tryz.func156 Tryz.ntmps156 [(0, .string s)] ?_
 by_cases h1 : s.size < 1
 ·rw [show nameB s = false from by unfold nameB; rw [decide_eq_false (by omega)]; rfl]; refine go_ ?_; exact r1_ ()
 by_cases h2 : 16 < s.size
 ·rw [show nameB s = false from by unfold nameB; rw [decide_eq_false (by omega)]; rfl]; refine go_ ?_; exact r1_ ()
 rw [show nameB s = s.data.toList.all chB from by unfold nameB; rw [decide_eq_true (by omega)]; rfl]; refine go_ ?_; refine sc_for (fun i : Nat => [(0, .string s), (14, .int .i64 s.size), (15, .int .i64 i)]) (fun _ => K) (fun i => i ≤ s.size ∧ (s.data.toList.take i).all chB = true) (fun i => s.size - i) 0 has_ sub_ ⟨Nat.zero_le _, rfl⟩ ?_; rintro i ⟨hi, hall⟩
 by_cases hlt : i < s.size
 ·have hn := str_at hlt
  have hsn := all_snoc hlt
  have hno := all_not hlt
  have hc := ch_cases s[i]
  generalize s[i] = ch at hn hsn hno hc
  rcases hc with ⟨h1, h2⟩ | ⟨h1, h2⟩ | ⟨h1, h2⟩ | ⟨h1, h2⟩ | ⟨⟨h0, h1⟩, h2⟩ | ⟨⟨h0, h1⟩, h2⟩ | ⟨⟨h0, h1⟩, h2⟩ | ⟨h1, h2⟩
  all_goals
   refine go_ ?_
   first
    | exact se_round (i + 1) has_ sub_ ⟨hlt, by rw [hsn, hall, h2]; rfl⟩ (by omega)
    | (rw [show s.data.toList.all chB = false from hno h2]; exact r1_ ())
 ·obtain rfl : i = s.size := by omega
  rw [List.take_of_length_le (by simp)] at hall
  rw [hall]; refine go_ ?_; exact r1_ ()
theorem used_ok {K : List Fa} {g m ck : Nat} {lim : Int} {fs : List DF} (hB : At (dB g m lim) K) (hM : At (dM m fs ck) K) (hu : usedN fs ≤ 1048576) :
  Fn Tryz.prog 157 #[.pointer (some ⟨g, 0, none⟩)] K (Ret (fun _ : Unit => True) (fun _ => .int .i64 (usedN fs)) (fun _ => K)) := by
 refine fn_know (mp_nodup hM) ?_; rintro ⟨hnd, hks⟩; refine fe_ Tryz.func157 Tryz.ntmps157 [(0, .pointer (some ⟨g, 0, none⟩))] ?_; refine go_ ?_; refine sl_range rfl at_ rfl rfl ?_; intro r; refine go_ ?_; refine sc_for (fun us : List DF => [(3, .int .i64 (usedN us)), (12, .pointer (some ⟨r, 0, none⟩))]) (fun us => itr r m ck (us.map DF.ent) :: K) (fun us => us.Nodup ∧ ∀ u ∈ us, u ∈ fs) (fun us => fs.length - us.length) [] has_ sub_ ⟨List.nodup_nil, fun _ h => by cases h⟩ ?_; rintro us ⟨hun, hus⟩; refine sc_seq ?_; refine sc_region ?_; refine sl_next rfl at_ .here (fun y hy => by obtain ⟨u, hu, rfl⟩ := List.mem_map.1 hy; exact List.mem_map_of_mem (hus u hu)) rfl (fun hall => ?_) (fun y hy hn => ?_)
 ·have hp : us.Perm fs := (List.perm_ext_iff_of_nodup hun hnd).2 fun x => ⟨hus x, fun hx => by
    obtain ⟨u, hu, he⟩ := List.mem_map.1 (hall _ (List.mem_map_of_mem hx))
    rwa [← ent_inj hks (hus u hu) hx he]⟩
  rw [used_perm hp]; refine go_ ?_; exact r1_ ()
 ·obtain ⟨f, hf, rfl⟩ := List.mem_map.1 hy
  have hfu : f ∉ us := fun h => hn (List.mem_map_of_mem h)
  have hnd' : (us ++ [f]).Nodup := List.nodup_append.2 ⟨hun, List.nodup_cons.2 ⟨by simp, List.nodup_nil⟩, fun a ha b hb e => by rw [List.mem_singleton] at hb; exact hfu (by rw [← hb, ← e]; exact ha)⟩
  have hsub : ∀ u ∈ us ++ [f], u ∈ fs := fun u h => by
   rcases List.mem_append.1 h with h | h
   ·exact hus u h
   ·rw [List.mem_singleton] at h
    rw [h]; exact hf
  obtain ⟨z, hz⟩ := sub_split hnd' hnd hsub
  have hlen := hz.length_eq
  have hsum : usedN us + f.l.length ≤ 1048576 := by
   have h1 := used_perm hz
   rw [used_app, used_app, used_cons] at h1
   omega
  rw [List.length_append, List.length_append, List.length_singleton] at hlen
  have h1 : usedN (us ++ [f]) = usedN us + f.l.length := by rw [used_app, used_cons]; simp [usedN]
  have hm : us.map DF.ent ++ [f.ent] = (us ++ [f]).map DF.ent := by simp
  have hv : f.ent.val = .agg #[.slice f.A f.l.length f.c, .int .i64 f.sy] := rfl
  refine go_ ?_; rw [hm]; refine al_ ?_; intro g5; refine go_ ?_
  refine se_round (us ++ [f]) (by rw [h1]; exact has_) sub_ ⟨hnd', hsub⟩ (by rw [List.length_append, List.length_singleton]; omega)
end
section
theorem ds_cap {L : List Fa} {fs : List DF} {f : DF} (h : At (dS fs) L) (hf : f ∈ fs) : ∀ w, Sep w L → f.l.length ≤ f.c := fun w hw => (own_cap (own_PD (star_get h (List.mem_map.2 ⟨f, hf, rfl⟩) w hw))).1
theorem ds_put {K : List Fa} {X Y : List DF} {f : DF} {s : ByteArray} {A : Option Addr} {c k sy bn : Nat} {l : List Int} (hl : l.length = k) : Ent_ (own 5 1 A k c (bytes l) :: dS (X ++ f :: Y) :: K) (dS (X ++ ⟨s, A, c, l, sy, bn⟩ :: Y) :: K) := by
 subst hl; exact ds_swap (f' := ⟨s, A, c, l, sy, bn⟩)
theorem ds_add {K : List Fa} {fs : List DF} {s : ByteArray} {A : Option Addr} {c k sy bn : Nat} {l : List Int} (hl : l.length = k) : Ent_ (own 5 1 A k c (bytes l) :: dS fs :: K) (dS (fs ++ [⟨s, A, c, l, sy, bn⟩]) :: K) := by
 subst hl; exact ds_new (f' := ⟨s, A, c, l, sy, bn⟩)
theorem se_sub {Q : Exit → Act → World → Prop} {e : Exit} {n : Nat} {l : Env} {L L' : List Fa} (hs : Sub L L') (h : SE Q e n l L') : SE Q e n l L := se_ent (fun _ hw => hw.sub hs) h
theorem dval_min {s : ByteArray} {A : Option Addr} {c k sy bn : Nat} {l : List Int} (hk : k ≤ l.length) : Value.agg #[.slice A k c, .int .i64 (if (k : Int) < (sy : Int) then (k : Int) else sy)] = DF.val ⟨s, A, c, l.take k, min sy k, bn⟩ := by
 unfold DF.val
 have h1 : (l.take k).length = k := by rw [List.length_take]; omega
 have h2 : (if (k : Int) < (sy : Int) then (k : Int) else sy) = ((min sy k : Nat) : Int) := by split <;> omega
 show _ = Value.agg #[.slice A (l.take k).length c, .int .i64 ((min sy k : Nat) : Int)]
 rw [h1, h2]
open pDk2
theorem readD_ok {K : List Fa} {g m ck : Nat} {lim : Int} {fs : List DF} {f : DF} (hB : At (dB g m lim) K) (hM : At (dM m fs ck) K) (hS : At (dS fs) K) (hf : f ∈ fs) (hn : f.l.length ≤ 70368744177664) :
  Fn Tryz.prog 12 #[.pointer (some ⟨g, 0, none⟩), .string f.s] K (Ret (fun _ : Option Addr × Nat => True) (fun q => .tuple #[.slice q.1 f.l.length q.2, .int .i64 0]) (fun q => u8o q.1 q.2 f.l :: K)) := by
 refine fe_ Tryz.func12 Tryz.ntmps12 [(0, .pointer (some ⟨g, 0, none⟩)), (1, .string f.s)] ?_
 have hg := dget hf
 unfold DF.val at hg
 refine go_ ?_; refine slc_ rfl rfl Sub.refl (has_yes hB hM hf) ?_; rintro _ -; refine go_ ?_; refine sl_pu (pu_field2 (cs := [.slice f.A f.l.length f.c, .int .i64 f.sy]) rfl rfl rfl rfl (by kernel_rfl) rfl) rfl ?_; refine go_ ?_; refine slc_ rfl rfl Sub.refl (clone_ok (K := K) (ds_get hS hf) hn) ?_; rintro ⟨A1, c1⟩ -; refine go_ ?_; exact r2_ (A1, c1)
theorem readD_no {K : List Fa} {g m ck : Nat} {lim : Int} {fs : List DF} {s : ByteArray} (hB : At (dB g m lim) K) (hM : At (dM m fs ck) K) (hf : ¬ DHas fs s) :
  Fn Tryz.prog 12 #[.pointer (some ⟨g, 0, none⟩), .string s] K (Ret (fun _ : Unit => True) (fun _ => .tuple #[.slice none 0 0, .int .i64 19]) (fun _ => K)) := by
 refine fe_ Tryz.func12 Tryz.ntmps12 [(0, .pointer (some ⟨g, 0, none⟩)), (1, .string s)] ?_; refine go_ ?_; refine slc_ rfl rfl Sub.refl (has_no hB hM hf) ?_; rintro _ -; refine go_ ?_; exact r2_ ()
theorem looseD_ok {K : List Fa} {g m ck : Nat} {lim : Int} {fs : List DF} {f : DF} (hB : At (dB g m lim) K) (hM : At (dM m fs ck) K) (hf : f ∈ fs) (hsy : f.sy ≤ f.l.length) (hn : f.l.length ≤ 1048576) :
  Fn Tryz.prog 101 #[.pointer (some ⟨g, 0, none⟩), .string f.s] K (Ret (fun _ : Unit => True) (fun _ => .int .i64 (f.l.length - f.sy : Nat)) (fun _ => K)) := by
 refine fe_ Tryz.func101 Tryz.ntmps101 [(0, .pointer (some ⟨g, 0, none⟩)), (1, .string f.s)] ?_
 have hg := dget hf
 unfold DF.val at hg
 rw [show (((f.l.length - f.sy : Nat) : Int)) = f.l.length - f.sy by omega]; refine go_ ?_; refine slc_ rfl rfl Sub.refl (has_yes hB hM hf) ?_; rintro _ -; refine go_ ?_; refine sq_region (by kernel_rfl) (by kernel_rfl) ?_
 repeat refine rq_ ?_
 refine wq_pu (pu_field2 (cs := [.slice f.A f.l.length f.c, .int .i64 f.sy]) rfl rfl rfl rfl (by kernel_rfl) rfl) rfl ?_
 repeat refine rq_ ?_
 refine wq_pu (pu_field2 (cs := [.slice f.A f.l.length f.c, .int .i64 f.sy]) rfl rfl rfl rfl (by kernel_rfl) rfl) rfl ?_
 repeat refine rq_ ?_
 refine sq_end ?_; refine go_ ?_; exact r1_ ()
theorem syncD_ok {K : List Fa} {g m ck : Nat} {lim : Int} {X Y : List DF} {f : DF} :
  Fn Tryz.prog 85 #[.pointer (some ⟨g, 0, none⟩), .string f.s] (dB g m lim :: dM m (X ++ f :: Y) ck :: K) (Ret (fun _ : Unit => True) (fun _ => .int .i64 0) (fun _ => dB g m lim :: dM m (X ++ { f with sy := f.l.length } :: Y) ck :: K)) := by
 refine fe_ Tryz.func85 Tryz.ntmps85 [(0, .pointer (some ⟨g, 0, none⟩)), (1, .string f.s)] ?_
 have hg := dget (mid_mem (X := X) (Y := Y) (f := f))
 unfold DF.val at hg
 refine go_ ?_; refine slc_ rfl rfl Sub.refl (has_yes at_ at_ mid_mem) ?_; rintro _ -; refine go_ ?_; refine al_ ?_; intro g5; refine go_ ?_; refine dr_ [blk g5 138 [.slice f.A f.l.length f.c, .int .i64 f.l.length], dB g m lim] 7 ?_; refine y4_ 0 1 2 3 ?_; refine y2_ 4 5 ?_; refine w1_ 6 ?_; refine sl_dput (f := f) (f' := { f with sy := f.l.length }) rfl rfl rfl rfl rfl pick_ rfl rfl ?_; refine vx_ ?_; refine go_ ?_; exact r1_ ()
theorem cutD_ok {K : List Fa} {g m ck : Nat} {lim k : Int} {X Y : List DF} {f : DF} (hk : 0 ≤ k ∧ k ≤ f.l.length) (hn : f.l.length ≤ 1048576) (hsy : f.sy ≤ f.l.length) :
  Fn Tryz.prog 84 #[.pointer (some ⟨g, 0, none⟩), .string f.s, .int .i64 k] (dB g m lim :: dM m (X ++ f :: Y) ck :: dS (X ++ f :: Y) :: K) (Ret (fun q : DF => q.s = f.s ∧ q.l = f.l.take k.toNat ∧ q.sy = min f.sy k.toNat) (fun _ => .int .i64 0) (fun q => dB g m lim :: dM m (X ++ q :: Y) ck :: dS (X ++ q :: Y) :: K)) := by
 refine fe_ Tryz.func84 Tryz.ntmps84 [(0, .pointer (some ⟨g, 0, none⟩)), (1, .string f.s), (2, .int .i64 k)] ?_
 have hg := dget (mid_mem (X := X) (Y := Y) (f := f))
 unfold DF.val at hg
 obtain ⟨k, rfl⟩ : ∃ j : Nat, k = j := ⟨k.toNat, by omega⟩
 rw [Int.toNat_natCast]; refine go_ ?_; refine slc_ rfl rfl Sub.refl (has_yes at_ at_ mid_mem) ?_; rintro _ -; refine go_ ?_; refine al_ ?_; intro g5; refine go_ ?_; refine sc_know (ds_cap (fs := X ++ f :: Y) (f := f) at_ mid_mem) ?_; intro hcap
 have hr : Vw (blk g5 138 [.slice f.A f.l.length f.c, .int .i64 f.sy] :: dB g m lim :: dM m (X ++ f :: Y) ck :: dS (X ++ f :: Y) :: K) (fun w => Reads w 1 f.A k (bytes (f.l.take k))) := fun w hw => by
  have h1 := (ds_get (fs := X ++ f :: Y) (f := f) at_ mid_mem w hw).take (k := k) (by omega)
  rwa [bytes_take] at h1
 refine dr_ [blk g5 138 [.slice f.A f.l.length f.c, .int .i64 f.sy], dB g m lim] 16 ?_; refine y4_ 0 1 2 3 ?_; refine y4_ 4 5 6 7 ?_; refine y4_ 8 10 11 12 ?_; refine wy_ 13 ?_; refine w1_ 9 ?_; refine slc_ rfl rfl Sub.refl (clone_ok hr (by omega)) ?_; rintro ⟨A1, c1⟩ -; refine wn_ ?_; refine wu_ 14 rfl (pu_build (v := .agg #[.slice A1 k c1, .int .i64 (if (k : Int) < (f.sy : Int) then (k : Int) else f.sy)]) rfl (fun W => by kernel_rfl)) ?_; refine w1_ 15 ?_; refine sl_dput (f := f) (f' := ⟨f.s, A1, c1, f.l.take k, min f.sy k, f.bn⟩) rfl rfl (congrArg some (dval_min (by omega))) rfl rfl pick_ rfl rfl ?_; refine vx_ ?_; refine go_ ?_; refine se_sub (L' := own 5 1 A1 k c1 (bytes (f.l.take k)) :: dS (X ++ f :: Y) :: dB g m lim :: dM m (X ++ ⟨f.s, A1, c1, f.l.take k, min f.sy k, f.bn⟩ :: Y) ck :: K) sub_ ?_; refine se_ent (ds_put (s := f.s) (sy := min f.sy k) (bn := f.bn) (by rw [List.length_take]; omega)) ?_; exact se_ret1 ⟨f.s, A1, c1, f.l.take k, min f.sy k, f.bn⟩ ⟨rfl, rfl, rfl⟩ rfl rfl sub_
end
end
end Go.Proofs.YtocaabnbmcpjmaaGreat
