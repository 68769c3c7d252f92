/- Several texts of one claim, one behind the other. -/
import Derived.Test.YtocaabnbmcpjmaaGreatB08
import Derived.Test.YtocaabnbmcpjmaaGreatB06
import Derived.Test.YtocaabnbmcpjmaaGreatB05
import Derived.Laws.Externs
set_option linter.unusedVariables false
set_option linter.unusedSimpArgs false
set_option maxRecDepth 100000
set_option maxHeartbeats 16000000
namespace Go.Proofs.YtocaabnbmcpjmaaGreat
variable {φ ψ : Prop}
section
open Go.RowKit
attribute [local irreducible] Go.Calls Go.Exit.then Go.Exit.inBlock Go.bodyPost Go.Code.wp Go.wpList
section
open pDf
theorem sub_blk {L L' : List Fa} {g : Nat} {t : TypeId} {cs : List Value} (h : Sub L L') (hm : blk g t cs ∈ L') : At (blk g t cs) L := At.of_mem ((h.mem _ hm).resolve_right (fun h => h g (by unfold blk; exact rfl)))
def setI (ss : List Seen) (id : Id) (c : Int) (hc : -9223372036854775808 ≤ c ∧ c ≤ 9223372036854775807) : Int × List Seen := if hasI ss id then (0, ss.set (posI ss id) (setC (getI ss id) c hc)) else (19, ss)
theorem setC_set (s : Seen) {c : Int} (hc : -9223372036854775808 ≤ c ∧ c ≤ 9223372036854775807) : s.cells.set 17 (.int .i64 c) = (setC s c hc).cells :=
 (SetAt.tail (k := 16) (a := bytes s.id.l) (i := 1) (by rw [bytes_length, s.id.len]) (SetAt.there SetAt.here)).eq.2
section
variable {K : List Fa} {x c : Nat} {A : Option Addr} {ss : List Seen} {lim : Int}
theorem set_ok (id : Id) {co : Int} (hc : -9223372036854775808 ≤ co ∧ co ≤ 9223372036854775807) (hs : Srt ss) (hn : ss.length ≤ 1000000) :
  Fn Tryz.prog 109 #[.pointer (some ⟨x, 0, none⟩), id.v, .int .i64 co] (ixb x A ss.length c lim :: ixo A c ss :: K) (Ret (fun _ : Option Addr × Nat => True) (fun _ => .int .i64 (setI ss id co hc).1) (fun p => ixb x p.1 ss.length p.2 lim :: ixo p.1 p.2 (setI ss id co hc).2 :: K)) := by
 refine fe_ Tryz.func109 Tryz.ntmps109 [(0, .pointer (some ⟨x, 0, none⟩)), (1, id.v), (2, .int .i64 co)] ?_; refine go_ ?_; refine bx_ ?_; intro gi; refine go_ ?_; refine slc_ rfl rfl sub_ (find_ok id at_ (Vw.of_own at_) hs (by omega)) ?_; rintro _ -
 by_cases hh : hasI ss id = true
 ·obtain ⟨s, hs1, hs2⟩ := hasI_pos hs hh
  have hlt := (List.getElem?_eq_some_iff.1 hs1).1
  have hg2 : getI ss id = s := by unfold getI; rw [hs1]; rfl
  have hse : setI ss id co hc = (0, ss.set (posI ss id) (setC s co hc)) := by unfold setI; rw [if_pos hh, hg2]
  rw [hse, hh]; dsimp only; refine go_ ?_; refine slc_ rfl rfl sub_ (rclone_ok (Vw.of_own at_) (rows_one_cell Seen.one ss) (by omega)) ?_; rintro ⟨A1, c1⟩ -; refine go_ ?_; refine sl_form (e := 62) (size := 18) (A := A1) (m := ss.length) (c := c1) at_ (by omega) ?_; rintro g0 rfl; refine go_ ?_; refine sl_sto2 rfl (at2 _ _ _) pick_ rfl rfl (by kernel_rfl) (by omega) ?_; rw [rows_set Seen.len hs1 (setC_set s hc) (by decide)]; refine go_ ?_; exact se_ret1 (some ⟨g0, 0, none⟩, c1) trivial rfl rfl (by show Sub _ (_ :: own 62 18 _ (ss.set _ _).length _ _ :: K); rw [List.length_set]; exact sub_)
 ·have hf : hasI ss id = false := by simpa using hh
  have hse : setI ss id co hc = (19, ss) := by unfold setI; rw [if_neg hh]
  rw [hse, hf]; dsimp only; refine go_ ?_; exact r1_ (A, c)
theorem room_ok {n : Nat} (hl : 0 ≤ lim ∧ lim ≤ 256) (hn : n ≤ 1000000) :
  Fn Tryz.prog 49 #[.pointer (some ⟨x, 0, none⟩)] (ixb x A n c lim :: K) (Ret (fun _ : Unit => True) (fun _ => .int .i64 (lim - n)) (fun _ => ixb x A n c lim :: K)) := by
 refine fe_ Tryz.func49 Tryz.ntmps49 [(0, .pointer (some ⟨x, 0, none⟩))] ?_; refine go_ ?_
 ((refine sq_region (by kernel_rfl) (by kernel_rfl) ?_; (repeat refine rq_ ?_); refine sq_end ?_))
 refine go_ ?_; exact r1_ ()
end
end
section
def us (st : List Int) : List Value := st.map (Value.int .u64)
theorem us_len {st : List Int} : (us st).length = st.length := by simp [us]
theorem us_get {st : List Int} {j : Nat} (h : j < st.length) : (us st)[j]? = some (.int .u64 (st.getD j 0)) := by
 simp [us, List.getD, List.getElem?_eq_getElem h]
theorem us_nth {st : List Int} {tl : List Value} {j : Nat} (h : j < st.length) : nth (us st ++ tl) (0 + j * 1) = some (.int .u64 (st.getD j 0)) := by
 rw [nth_eq, Nat.zero_add, Nat.mul_one, List.getElem?_append_left (by rw [us_len]; exact h), us_get h]
theorem us_nth0 {st : List Int} {j : Nat} (h : j < st.length) : nth (us st) (0 + j * 1) = some (.int .u64 (st.getD j 0)) := by
 rw [nth_eq, Nat.zero_add, Nat.mul_one, us_get h]
theorem us_set {st : List Int} {tl : List Value} {j : Nat} {x : Int} (h : j < st.length) : SetAt (0 + j * 1) (.int .u64 x) (us st ++ tl) (us (st.set j x) ++ tl) := by
 rw [Nat.zero_add, Nat.mul_one]
 have h1 := SetAt.mk (i := j) (v := .int .u64 x) (r := us st ++ tl) (by rw [List.length_append, us_len]; omega)
 rw [List.set_append_left _ _ (by rw [us_len]; exact h)] at h1
 unfold us at h1 ⊢
 rwa [← List.map_set] at h1
theorem us_set0 {st : List Int} {j : Nat} {x : Int} (h : j < st.length) : SetAt (0 + j * 1) (.int .u64 x) (us st) (us (st.set j x)) := by
 have h1 := us_set (tl := []) (x := x) h
 rwa [List.append_nil, List.append_nil] at h1
theorem us_one {st : List Int} : ∀ v ∈ us st, v.oneCell' = true := by
 intro v hv
 obtain ⟨x, _, rfl⟩ := List.mem_map.1 hv
 rfl
def isv (st : List Int) : List Value := st.map (Value.int .i64)
theorem isv_nth {st : List Int} {j : Nat} (h : j < st.length) : nth (isv st) (0 + j * 1) = some (.int .i64 (st.getD j 0)) := by
 rw [nth_eq, Nat.zero_add, Nat.mul_one]
 simp [isv, List.getD, List.getElem?_eq_getElem h]
theorem us_put {st so : List Int} {tl : List Value} (h : so.length = st.length) : (us st ++ tl).take 0 ++ us so ++ (us st ++ tl).drop (0 + (us so).length) = us so ++ tl := by
 have h1 : (us so).length = (us st).length := by rw [us_len, us_len, h]
 rw [List.take_zero, List.nil_append, Nat.zero_add, h1, List.drop_left]
def rotl (x k : Int) : Int := bits .or .u64 (IntKind.u64.wrap (x * 2 ^ k.toNat)) (x / 2 ^ (64 - k).toNat)
def mixA (st : List Int) : Nat → List Int
 | 0 => [0, 0, 0, 0, 0]
 | k + 1 => (mixA st k).set ((k : Int) % 5).toNat (bits .xor .u64 ((mixA st k).getD ((k : Int) % 5).toNat 0) (st.getD k 0))
theorem mixA_len {st : List Int} : ∀ {k : Nat}, (mixA st k).length = 5
 | 0 => rfl
 | k + 1 => by rw [mixA, List.length_set]; exact mixA_len
def mixB (su st : List Int) : Nat → List Int
 | 0 => st
 | k + 1 => (mixB su st k).set k (bits .xor .u64 ((mixB su st k).getD k 0) (bits .xor .u64 (su.getD (((k : Int) + 4) % 5).toNat 0) (rotl (su.getD (((k : Int) + 1) % 5).toNat 0) 1)))
theorem mixB_len {su st : List Int} : ∀ {k : Nat}, (mixB su st k).length = st.length
 | 0 => rfl
 | k + 1 => by rw [mixB, List.length_set]; exact mixB_len
def tblL : List Int := [0, 1, 62, 28, 27, 36, 44, 6, 55, 20, 3, 10, 43, 25, 39, 41, 45, 15, 21, 8, 18, 2, 61, 56, 14]
def movA (st : List Int) : Nat → List Int
 | 0 => [0, 0, 0, 0, 0, 0, 0, 0, 0, 0, 0, 0, 0, 0, 0, 0, 0, 0, 0, 0, 0, 0, 0, 0, 0]
 | k + 1 => (movA st k).set ((k : Int) / 5 + 5 * ((2 * ((k : Int) % 5) + 3 * ((k : Int) / 5)) % 5)).toNat (rotl (st.getD k 0) (tblL.getD k 0))
theorem movA_len {st : List Int} : ∀ {k : Nat}, (movA st k).length = 25
 | 0 => rfl
 | k + 1 => by rw [movA, List.length_set]; exact movA_len
def benA (st : List Int) : Nat → List Int
 | 0 => [0, 0, 0, 0, 0, 0, 0, 0, 0, 0, 0, 0, 0, 0, 0, 0, 0, 0, 0, 0, 0, 0, 0, 0, 0]
 | k + 1 => (benA st k).set k (bits .xor .u64 (st.getD k 0) (bits .and .u64 (compl .u64 (st.getD ((k : Int) / 5 * 5 + ((k : Int) + 1) % 5).toNat 0)) (st.getD ((k : Int) / 5 * 5 + ((k : Int) + 2) % 5).toNat 0)))
theorem benA_len {st : List Int} : ∀ {k : Nat}, (benA st k).length = 25
 | 0 => rfl
 | k + 1 => by rw [benA, List.length_set]; exact benA_len
theorem tbl_bd : ∀ k : Nat, k < 25 → 0 ≤ tblL.getD k 0 ∧ tblL.getD k 0 < 64 := by decide
theorem tbl_len : tblL.length = 25 := rfl
def conL : List Int := [2147516555, 9223372036854775947, 9223372036854808713, 9223372036854808579, 9223372036854808578, 9223372036854775936, 32778, 9223372039002259466, 9223372039002292353, 9223372036854808704, 2147483649, 9223372039002292232]
theorem con_len : conL.length = 12 := rfl
def mixS (st : List Int) : List Int := mixB (mixA st 25) st 25
def movS (st : List Int) : List Int := movA st 25
def benS (st : List Int) : List Int := benA st 25
def perA (st : List Int) : Nat → List Int
 | 0 => st
 | k + 1 => (benS (movS (mixS (perA st k)))).set 0 (bits .xor .u64 ((benS (movS (mixS (perA st k)))).getD 0 0) (conL.getD k 0))
theorem perA_len {st : List Int} (h : st.length = 25) : ∀ {k : Nat}, (perA st k).length = 25
 | 0 => h
 | k + 1 => by rw [perA, List.length_set]; exact benA_len
theorem and_63 {k : Int} (h0 : 0 ≤ k) (h : k < 64) : bits .and .u64 k 63 = k := by
 obtain ⟨j, rfl⟩ : ∃ j : Nat, k = j := ⟨k.toNat, by omega⟩
 have hj : j < 64 := by omega
 clear h0 h
 revert j
 decide
namespace pKc
theorem nthx_ (h : φ := by first | exact isv_nth (by rw [tbl_len]; omega) | exact us_nth (by first | omega | (simp only [mixA_len, mixB_len, movA_len, benA_len]; omega)) | exact us_nth0 (by first | omega | (simp only [mixA_len, mixB_len, movA_len, benA_len]; omega))) : φ := h
theorem szx_ (h : φ := by ((first | (simp only [us_len, mixA_len, mixB_len, movA_len, benA_len]; rfl) | (simp only [us_len, *]; rfl) | simp only [us_len, mixA_len, mixB_len, movA_len, benA_len]); first | done | fail)) : φ := h
theorem onex_ (h : φ := by exact us_one) : φ := h
theorem setx_ (h : φ := by first | exact us_set (by first | omega | (simp only [mixA_len, mixB_len, movA_len, benA_len]; omega)) | exact us_set0 (by first | omega | (simp only [mixA_len, mixB_len, movA_len, benA_len]; omega))) : φ := h
end pKc
open pKc
theorem rotl_ok {K : List Fa} {x k : Int} (h0 : 0 ≤ k) (h : k < 64) :
  Fn Tryz.prog 227 #[.int .u64 x, .int .i64 k] K (Ret (fun _ : Unit => True) (fun _ => .int .u64 (rotl x k)) (fun _ => K)) := by
 refine fe_ Tryz.func227 Tryz.ntmps227 [(0, .int .u64 x), (1, .int .i64 k)] ?_
 have h63 := and_63 h0 h
 refine sc_seq ?_; refine sc_region ?_
 repeat refine su_ ?_
 refine sl_nil ?_; refine se_seq ?_; refine sc_seq ?_; refine sc_region ?_
 repeat refine su_ ?_
 rw [h63]; refine go_ ?_; exact r1_ ()
theorem mix_ok {K : List Fa} {g : Nat} {t : TypeId} {st : List Int} {tl : List Value} (hl : st.length = 25) :
  Fn Tryz.prog 223 #[.pointer (some ⟨g, 0, none⟩)] (blk g t (us st ++ tl) :: K) (Ret (fun _ : Unit => True) (fun _ => .tuple #[]) (fun _ => blk g t (us (mixS st) ++ tl) :: K)) := by
 refine fe_ Tryz.func223 Tryz.ntmps223 [(0, .pointer (some ⟨g, 0, none⟩))] ?_; refine go_ ?_; refine al_ ?_; intro gs; refine go_ ?_; refine sc_for (fun k : Nat => [(0, .pointer (some ⟨g, 0, none⟩)), (2, .pointer (some ⟨gs, 0, none⟩)), (6, .pointer (some ⟨g, 0, none⟩)), (7, .int .i64 k)]) (fun k => blk gs 287 (us (mixA st k)) :: blk g t (us st ++ tl) :: K) (fun k => k ≤ 25) (fun k => 25 - k) 0 has_ sub_ (by omega) ?_; intro k hk
 by_cases hlt : k < 25
 ·refine go_ ?_
  ((refine sq_region (by kernel_rfl) (by kernel_rfl) ?_; (repeat refine rq_ ?_); refine sq_end ?_))
  refine go_ ?_; exact se_round (k + 1) has_ sub_ hlt (by omega)
 obtain rfl : k = 25 := by omega
 have hsl : (mixA st 25).length = 5 := mixA_len
 rw [show mixS st = mixB (mixA st 25) st 25 from rfl]
 generalize mixA st 25 = su at hsl ⊢
 refine go_ ?_; refine sc_for (fun k : Nat => [(0, .pointer (some ⟨g, 0, none⟩)), (2, .pointer (some ⟨gs, 0, none⟩)), (21, .int .i64 k)]) (fun k => blk gs 287 (us su) :: blk g t (us (mixB su st k) ++ tl) :: K) (fun k => k ≤ 25) (fun k => 25 - k) 0 has_ sub_ (by omega) ?_; intro k hk
 by_cases hlt : k < 25
 ·refine go_ ?_; refine sd_drawn (fun W => AllP W [blk gs 287 (us su), blk g t (us (mixB su st k) ++ tl)]) (fun i => !(List.contains [20] i)) (by kernel_rfl) 21 rfl ?_; refine y4_ 0 1 2 3 ?_; refine y4_ 4 5 6 7 ?_; refine y4_ 8 9 10 11 ?_; refine y4_ 12 13 14 18 ?_; refine w1_ 15 ?_; refine slc_ rfl rfl Sub.refl (rotl_ok (by omega) (by omega)) ?_; rintro _ -; refine vy_ 16 ?_; refine y2_ 17 19 ?_; refine w1_ 20 ?_; refine sto_ ?_; refine sl_nil ?_; refine se_sd (fun h => absurd h (by decide)) ?_; refine wx_ ?_; refine go_ ?_; exact se_round (k + 1) has_ sub_ hlt (by omega)
 obtain rfl : k = 25 := by omega
 refine go_ ?_; exact se_end0 () trivial rfl rfl sub_
theorem build_turns (W : World) : (Instr.build 289 #[(0, .int .i64 0), (1, .int .i64 1), (2, .int .i64 62), (3, .int .i64 28), (4, .int .i64 27), (5, .int .i64 36), (6, .int .i64 44), (7, .int .i64 6), (8, .int .i64 55), (9, .int .i64 20), (10, .int .i64 3), (11, .int .i64 10), (12, .int .i64 43), (13, .int .i64 25), (14, .int .i64 39), (15, .int .i64 41), (16, .int .i64 45), (17, .int .i64 15), (18, .int .i64 21), (19, .int .i64 8), (20, .int .i64 18), (21, .int .i64 2), (22, .int .i64 61), (23, .int .i64 56), (24, .int .i64 14)]).run Tryz.prog W = .ok (.agg (isv tblL).toArray) W := by kernel_rfl
theorem build_consts (W : World) : (Instr.build 284 #[(0, .int .u64 2147516555), (1, .int .u64 9223372036854775947), (2, .int .u64 9223372036854808713), (3, .int .u64 9223372036854808579), (4, .int .u64 9223372036854808578), (5, .int .u64 9223372036854775936), (6, .int .u64 32778), (7, .int .u64 9223372039002259466), (8, .int .u64 9223372039002292353), (9, .int .u64 9223372036854808704), (10, .int .u64 2147483649), (11, .int .u64 9223372039002292232)]).run Tryz.prog W = .ok (.agg (us conL).toArray) W := by kernel_rfl
theorem isv_len {st : List Int} : (isv st).length = st.length := by simp [isv]
theorem isv_one {st : List Int} : ∀ v ∈ isv st, v.oneCell' = true := by
 intro v hv
 obtain ⟨x, _, rfl⟩ := List.mem_map.1 hv
 rfl
theorem turns_ok {K : List Fa} : Fn Tryz.prog 228 #[] K (Ret (fun _ : Unit => True) (fun _ => .agg (isv tblL).toArray) (fun _ => K)) := by
 refine fe_ Tryz.func228 Tryz.ntmps228 [] ?_; refine go_ ?_; refine al_ ?_; intro g0; refine go_ ?_; refine sl_pu (pu_build (v := .agg (isv tblL).toArray) rfl build_turns) rfl ?_; refine sl_store_whole (cl := isv tblL) rfl .here rfl rfl rfl isv_one ?_; refine go_ ?_; exact se_ret_c () trivial rfl rfl at_ rfl rfl rfl rfl sub_
theorem consts_ok {K : List Fa} : Fn Tryz.prog 222 #[] K (Ret (fun _ : Unit => True) (fun _ => .agg (us conL).toArray) (fun _ => K)) := by
 refine fe_ Tryz.func222 Tryz.ntmps222 [] ?_; refine go_ ?_; refine al_ ?_; intro g0; refine go_ ?_; refine sl_pu (pu_build (v := .agg (us conL).toArray) rfl build_consts) rfl ?_; refine sl_store_whole (cl := us conL) rfl .here rfl rfl rfl us_one ?_; refine go_ ?_; exact se_ret_c () trivial rfl rfl at_ rfl rfl rfl rfl sub_
attribute [irreducible] tblL conL
theorem move_ok {K : List Fa} {g : Nat} {t : TypeId} {st : List Int} {tl : List Value} (hl : st.length = 25) :
  Fn Tryz.prog 224 #[.pointer (some ⟨g, 0, none⟩)] (blk g t (us st ++ tl) :: K) (Ret (fun _ : Unit => True) (fun _ => .tuple #[]) (fun _ => blk g t (us (movS st) ++ tl) :: K)) := by
 refine fe_ Tryz.func224 Tryz.ntmps224 [(0, .pointer (some ⟨g, 0, none⟩))] ?_; refine go_ ?_; refine slc_ rfl rfl sub_ turns_ok ?_; rintro _ -; refine go_ ?_; refine al_ ?_; intro gb; refine sl_store_whole (cl := isv tblL) rfl .here rfl (by rw [isv_len, tbl_len]; rfl) (by rw [isv_len, tbl_len]; rfl) isv_one ?_; refine go_ ?_; refine al_ ?_; intro go; refine go_ ?_; refine sc_for (fun k : Nat => [(0, .pointer (some ⟨g, 0, none⟩)), (2, .pointer (some ⟨gb, 0, none⟩)), (3, .pointer (some ⟨go, 0, none⟩)), (9, .pointer (some ⟨g, 0, none⟩)), (10, .int .i64 k)]) (fun k => blk go 272 (us (movA st k)) :: blk gb 289 (isv tblL) :: blk g t (us st ++ tl) :: K) (fun k => k ≤ 25) (fun k => 25 - k) 0 has_ sub_ (by omega) ?_; intro k hk
 by_cases hlt : k < 25
 ·obtain ⟨hb0, hb1⟩ := tbl_bd k hlt
  refine go_ ?_
  ((refine sq_region (by kernel_rfl) (by kernel_rfl) ?_; (repeat refine rq_ ?_); refine sq_end ?_))
  refine go_ ?_; refine slc_ rfl rfl sub_ (rotl_ok hb0 hb1) ?_; rintro _ -; refine go_ ?_; exact se_round (k + 1) has_ sub_ hlt (by omega)
 obtain rfl : k = 25 := by omega
 have hsl : (movA st 25).length = 25 := movA_len
 rw [show movS st = movA st 25 from rfl]
 generalize movA st 25 = so at hsl ⊢
 refine go_ ?_; refine sl_store_mid rfl pick_ rfl (by rw [us_len, hsl]; rfl) (by rw [us_len, List.length_append, us_len]; omega) us_one ?_; rw [us_put (by rw [hsl, hl])]; refine go_ ?_; exact se_end0 () trivial rfl rfl sub_
theorem bend_ok {K : List Fa} {g : Nat} {t : TypeId} {st : List Int} {tl : List Value} (hl : st.length = 25) :
  Fn Tryz.prog 225 #[.pointer (some ⟨g, 0, none⟩)] (blk g t (us st ++ tl) :: K) (Ret (fun _ : Unit => True) (fun _ => .tuple #[]) (fun _ => blk g t (us (benS st) ++ tl) :: K)) := by
 refine fe_ Tryz.func225 Tryz.ntmps225 [(0, .pointer (some ⟨g, 0, none⟩))] ?_; refine go_ ?_; refine al_ ?_; intro go; refine go_ ?_; refine sc_for (fun k : Nat => [(0, .pointer (some ⟨g, 0, none⟩)), (2, .pointer (some ⟨go, 0, none⟩)), (6, .pointer (some ⟨g, 0, none⟩)), (7, .int .i64 k)]) (fun k => blk go 272 (us (benA st k)) :: blk g t (us st ++ tl) :: K) (fun k => k ≤ 25) (fun k => 25 - k) 0 has_ sub_ (by omega) ?_; intro k hk
 by_cases hlt : k < 25
 ·refine go_ ?_
  ((refine sq_region (by kernel_rfl) (by kernel_rfl) ?_; (repeat refine rq_ ?_); refine sq_end ?_))
  refine go_ ?_; refine dr_ [blk g t (us st ++ tl)] 25 ?_; refine y4_ 0 1 2 3 ?_; refine y4_ 4 5 6 7 ?_; refine y4_ 8 9 10 11 ?_; refine y4_ 12 13 14 15 ?_; refine y4_ 16 17 18 19 ?_; refine y4_ 20 21 22 23 ?_; refine w1_ 24 ?_; refine sto_ ?_; refine vx_ ?_; refine go_ ?_; exact se_round (k + 1) has_ sub_ hlt (by omega)
 obtain rfl : k = 25 := by omega
 have hsl : (benA st 25).length = 25 := benA_len
 rw [show benS st = benA st 25 from rfl]
 generalize benA st 25 = so at hsl ⊢
 refine go_ ?_; refine sl_store_mid rfl pick_ rfl (by rw [us_len, hsl]; rfl) (by rw [us_len, List.length_append, us_len]; omega) us_one ?_; rw [us_put (by rw [hsl, hl])]; refine go_ ?_; exact se_end0 () trivial rfl rfl sub_
theorem mixS_len {st : List Int} (h : st.length = 25) : (mixS st).length = 25 := mixB_len.trans h
theorem movS_len {st : List Int} : (movS st).length = 25 := movA_len
theorem benS_len {st : List Int} : (benS st).length = 25 := benA_len
attribute [irreducible] mixS movS benS
end
section
theorem us_nthp {st : List Int} {p : Int} (h : p.toNat < st.length) : nth (us st) p.toNat = some (.int .u64 (st.getD p.toNat 0)) := by
 rw [nth_eq, us_get h]
def perm (st : List Int) : List Int := perA st 12
theorem perm_len {st : List Int} (h : st.length = 25) : (perm st).length = 25 := perA_len h
def spT (ap dom : Int) (gv : Bool) : List Value := [.int .i64 ap, .int .u8 dom, .bool gv]
theorem us_tl0 {st : List Int} {tl : List Value} {i : Nat} (h : st.length = 25) (h2 : 25 ≤ i) : nth (us st ++ tl) i = nth tl (i - 25) := by
 rw [nth_eq, nth_eq, List.getElem?_append_right (by rw [us_len]; omega), us_len, h]
theorem us_set_tl {st : List Int} {tl r : List Value} {i : Nat} {v : Value} (h : st.length = 25) (h2 : 25 ≤ i) (hs : SetAt (i - 25) v tl r) : SetAt i v (us st ++ tl) (us st ++ r) := by
 have h1 := SetAt.tail (a := us st) (b := tl) (i := i - 25) (k := 25) (v := v) (r := r) (by rw [us_len, h]) hs
 rwa [show 25 + (i - 25) = i by omega] at h1
namespace pKs
theorem nthx_ (h : φ := by first | exact us_nth (by first | omega | (simp only [benS_len]; omega)) | exact us_nthp (by rw [con_len]; omega) | exact (us_tl0 (by first | assumption | omega) (by decide)).trans rfl) : φ := h
theorem szx_ (h : φ := by ((simp only [us_len, *]; rfl); first | done | fail)) : φ := h
theorem onex_ (h : φ := by exact us_one) : φ := h
theorem setx_ (h : φ := by first | exact us_set (by first | omega | (simp only [benS_len]; omega)) | exact us_set_tl (by first | assumption | omega) (by decide) (by (repeat (first | exact SetAt.here | apply SetAt.there)); first | done | fail)) : φ := h
end pKs
open pKs
theorem perm_ok {K : List Fa} {g : Nat} {t : TypeId} {st : List Int} {tl : List Value} (hl : st.length = 25) :
  Fn Tryz.prog 211 #[.pointer (some ⟨g, 0, none⟩)] (blk g t (us st ++ tl) :: K) (Ret (fun _ : Unit => True) (fun _ => .tuple #[]) (fun _ => blk g t (us (perm st) ++ tl) :: K)) := by
 refine fe_ Tryz.func211 Tryz.ntmps211 [(0, .pointer (some ⟨g, 0, none⟩))] ?_; refine go_ ?_; refine slc_ rfl rfl sub_ consts_ok ?_; rintro _ -; refine go_ ?_; refine sc_for (fun k : Nat => [(0, .pointer (some ⟨g, 0, none⟩)), (6, .agg (us conL).toArray), (7, .int .i64 k)]) (fun k => blk g t (us (perA st k) ++ tl) :: K) (fun k => k ≤ 12) (fun k => 12 - k) 0 has_ sub_ (by omega) ?_; intro k hk
 by_cases hlt : k < 12
 ·refine go_ ?_; refine slc_ rfl rfl sub_ (mix_ok (perA_len hl)) ?_; rintro _ -; refine go_ ?_; refine slc_ rfl rfl sub_ (move_ok (mixS_len (perA_len hl))) ?_; rintro _ -; refine go_ ?_; refine slc_ rfl rfl sub_ (bend_ok movS_len) ?_; rintro _ -; refine go_ ?_; refine sd_drawn (fun W => AllP W [blk g t (us (benS (movS (mixS (perA st k)))) ++ tl)]) (fun i => !(List.contains [8] i)) (by kernel_rfl) 9 rfl ?_; refine y4_ 0 1 2 3 ?_; refine y4_ 4 5 6 7 ?_; refine w1_ 8 ?_; refine sto_ ?_; refine sl_nil ?_; refine se_sd (fun h => absurd h (by decide)) ?_; refine wx_ ?_; refine go_ ?_; exact se_round (k + 1) has_ sub_ hlt (by omega)
 obtain rfl : k = 12 := by omega
 rw [show perm st = perA st 12 from rfl]
 generalize perA st 12 = so
 refine go_ ?_; exact se_end0 () trivial rfl rfl sub_
attribute [irreducible] perm
def flp (st : List Int) (ap c : Int) : List Int := st.set (ap / 8).toNat (bits .xor .u64 (st.getD (ap / 8).toNat 0) (IntKind.u64.wrap (c * 2 ^ (8 * (ap % 8)).toNat)))
theorem flp_len {st : List Int} {ap c : Int} : (flp st ap c).length = st.length := by simp [flp]
theorem flip_ok {K : List Fa} {g : Nat} {t : TypeId} {st : List Int} {tl : List Value} {ap c : Int} (hl : st.length = 25) (h0 : 0 ≤ ap) (h1 : ap < 200) (hc : 0 ≤ c ∧ c < 256) :
  Fn Tryz.prog 212 #[.pointer (some ⟨g, 0, none⟩), .int .i64 ap, .int .u8 c] (blk g t (us st ++ tl) :: K) (Ret (fun _ : Unit => True) (fun _ => .tuple #[]) (fun _ => blk g t (us (flp st ap c) ++ tl) :: K)) := by
 refine fe_ Tryz.func212 Tryz.ntmps212 [(0, .pointer (some ⟨g, 0, none⟩)), (1, .int .i64 ap), (2, .int .u8 c)] ?_; refine go_ ?_; refine sd_drawn (fun W => AllP W [blk g t (us st ++ tl)]) (fun i => !(List.contains [17] i)) (by kernel_rfl) 18 rfl ?_; refine y4_ 0 1 2 3 ?_; refine y4_ 4 5 6 7 ?_; refine y4_ 8 9 10 11 ?_; refine y4_ 12 13 14 15 ?_; refine wy_ 16 ?_; refine w1_ 17 ?_; refine sto_ ?_; refine sl_nil ?_; refine se_sd (fun h => absurd h (by decide)) ?_; refine wx_ ?_; refine go_ ?_; exact se_end0 () trivial rfl rfl sub_
def z25 : List Int := [0, 0, 0, 0, 0, 0, 0, 0, 0, 0, 0, 0, 0, 0, 0, 0, 0, 0, 0, 0, 0, 0, 0, 0, 0]
theorem z25_len : z25.length = 25 := rfl
theorem build_sp (dom : Int) (W : World) : (Instr.build 274 #[(2, .int .u8 dom)]).run Tryz.prog W = .ok (.agg (us z25 ++ spT 0 dom false).toArray) W := by kernel_rfl
attribute [irreducible] z25
theorem newSp_ok {K : List Fa} {dom : Int} (h0 : 1 ≤ dom) (h1 : dom ≤ 127) :
  Fn Tryz.prog 187 #[.int .u8 dom] K (Ret (fun _ : Nat => True) (fun g => .pointer (some ⟨g, 0, none⟩)) (fun g => blk g 274 (us z25 ++ spT 0 dom false) :: K)) := by
 refine fe_ Tryz.func187 Tryz.ntmps187 [(0, .int .u8 dom)] ?_; refine go_ ?_; refine sl_pu (pu_build (v := .agg (us z25 ++ spT 0 dom false).toArray) rfl (build_sp dom)) rfl ?_; refine bx_ ?_; intro g; refine go_ ?_; exact r1_ g
def wr1 (p : List Int × Int) (c : Int) : List Int × Int := if p.2 = 168 then (flp (perm p.1) 0 c, 1) else (flp p.1 p.2 c, p.2 + 1)
def wrL (bs : List Int) (p : List Int × Int) : List Int × Int := bs.foldl wr1 p
theorem wrL_snoc (bs : List Int) (c : Int) (p : List Int × Int) : wrL (bs ++ [c]) p = wr1 (wrL bs p) c := by simp [wrL]
theorem wr1_ok {p : List Int × Int} (c : Int) (h : p.1.length = 25 ∧ 0 ≤ p.2 ∧ p.2 ≤ 168) : (wr1 p c).1.length = 25 ∧ 0 ≤ (wr1 p c).2 ∧ (wr1 p c).2 ≤ 168 := by
 unfold wr1
 split
 ·exact ⟨by rw [flp_len, perm_len h.1], by show (0 : Int) ≤ 1; decide, by show (1 : Int) ≤ 168; decide⟩
 ·exact ⟨by rw [flp_len, h.1], by show 0 ≤ p.2 + 1; omega, by show p.2 + 1 ≤ 168; omega⟩
theorem wrL_ok : ∀ (bs : List Int) {p : List Int × Int}, p.1.length = 25 ∧ 0 ≤ p.2 ∧ p.2 ≤ 168 → (wrL bs p).1.length = 25 ∧ 0 ≤ (wrL bs p).2 ∧ (wrL bs p).2 ≤ 168
 | [], _, h => h
 | c :: r, p, h => wrL_ok r (p := wr1 p c) (wr1_ok c h)
theorem take_snoc {bs : List Int} {k : Nat} (h : k < bs.length) : bs.take (k + 1) = bs.take k ++ [bs[k]] := by
 rw [List.take_succ_eq_append_getElem h]
theorem bytes_nth1 {xs : List Int} {k : Nat} (h : k < xs.length) : nth (bytes xs) (k * 1) = some (.int .u8 xs[k]) := by
 rw [Nat.mul_one, bytes_at h]
theorem writeSp_ok {K : List Fa} {g n c : Nat} {A : Option Addr} {bs : List Int} {t : TypeId} {st : List Int} {a dom : Int} (hr : Vw K (fun w => Reads w 1 A n (bytes bs))) (hn : bs.length = n) (hb : IsBytes bs) (hm : n ≤ 70368744177664) (hp : st.length = 25 ∧ 0 ≤ a ∧ a ≤ 168) :
  Fn Tryz.prog 188 #[.pointer (some ⟨g, 0, none⟩), .slice A n c] (blk g t (us st ++ spT a dom false) :: K) (Ret (fun _ : Unit => True) (fun _ => .tuple #[]) (fun _ => blk g t (us (wrL bs (st, a)).1 ++ spT (wrL bs (st, a)).2 dom false) :: K)) := by
 refine fe_ Tryz.func188 Tryz.ntmps188 [(0, .pointer (some ⟨g, 0, none⟩)), (1, .slice A n c)] ?_
 obtain ⟨hl, h0, h1⟩ := hp
 refine go_ ?_; refine sc_for (fun p : Nat × List Int × Int => [(0, .pointer (some ⟨g, 0, none⟩)), (14, .slice A n c), (15, .int .i64 n), (16, .int .i64 p.1)]) (fun p => blk g t (us p.2.1 ++ spT p.2.2 dom false) :: K) (fun p => p.1 ≤ n ∧ p.2 = wrL (bs.take p.1) (st, a)) (fun p => n - p.1) (0, st, a) has_ sub_ ⟨Nat.zero_le _, rfl⟩ ?_; rintro ⟨k, s, q⟩ ⟨hk, hs⟩
 replace hk : k ≤ n := hk
 replace hs : (s, q) = wrL (bs.take k) (st, a) := hs
 obtain ⟨hs1, hq0, hq1⟩ : s.length = 25 ∧ 0 ≤ q ∧ q ≤ 168 := by
  have := wrL_ok (bs.take k) (p := (st, a)) ⟨hl, h0, h1⟩
  rw [← hs] at this
  exact this
 dsimp only
 by_cases hlt : k < n
 ·have hlt' : k < bs.length := by omega
  have hc := hb _ (List.getElem_mem hlt')
  have hstep : wr1 (s, q) bs[k] = wrL (bs.take (k + 1)) (st, a) := by rw [take_snoc hlt', wrL_snoc, hs]
  refine sc_know (vw_form (hr.mono (L' := blk g t (us s ++ spT q dom false) :: K) sub_) (by omega)) ?_; rintro ⟨ad, rfl⟩; refine go_ ?_; refine sl_pu (pu_ldr (hr.mono sub_) (by omega) rfl rfl (bytes_nth1 hlt')) rfl ?_
  by_cases hq : q = 168
  ·subst hq; refine go_ ?_; refine slc_ rfl rfl sub_ (perm_ok hs1) ?_; rintro _ -
   have hs2 := perm_len hs1
   refine go_ ?_; refine slc_ rfl rfl sub_ (flip_ok (tl := spT 0 dom false) hs2 (by omega) (by omega) hc) ?_; rintro _ -
   have hs3 : (flp (perm s) 0 bs[k]).length = 25 := by rw [flp_len, hs2]
   refine go_ ?_; exact se_round (k + 1, flp (perm s) 0 bs[k], 1) has_ sub_ ⟨hlt, by rw [← hstep]; rfl⟩ (by show n - (k + 1) < n - k; omega)
  ·refine go_ ?_; refine slc_ rfl rfl sub_ (flip_ok (tl := spT q dom false) hs1 (by omega) (by omega) hc) ?_; rintro _ -
   have hs3 : (flp s q bs[k]).length = 25 := by rw [flp_len, hs1]
   refine go_ ?_; exact se_round (k + 1, flp s q bs[k], q + 1) has_ sub_ ⟨hlt, by rw [← hstep]; exact (if_neg hq).symm⟩ (by show n - (k + 1) < n - k; omega)
 obtain rfl : k = n := by omega
 rw [List.take_of_length_le (by omega)] at hs
 rw [← hs]; refine go_ ?_; exact se_end0 () trivial rfl rfl sub_
def endQ (p : List Int × Int) : List Int × Int := if p.2 = 168 then (perm p.1, 0) else p
def endS (dom : Int) (p : List Int × Int) : List Int := perm (flp (flp (endQ p).1 (endQ p).2 dom) 167 128)
theorem endQ_ok {p : List Int × Int} (h : p.1.length = 25 ∧ 0 ≤ p.2 ∧ p.2 ≤ 168) : (endQ p).1.length = 25 ∧ 0 ≤ (endQ p).2 ∧ (endQ p).2 < 168 := by
 unfold endQ
 split
 ·exact ⟨perm_len h.1, by show (0 : Int) ≤ 0; decide, by show (0 : Int) < 168; decide⟩
 ·exact ⟨h.1, h.2.1, by omega⟩
theorem endS_len {dom : Int} {p : List Int × Int} (h : p.1.length = 25 ∧ 0 ≤ p.2 ∧ p.2 ≤ 168) : (endS dom p).length = 25 := perm_len (by rw [flp_len, flp_len, (endQ_ok h).1])
theorem endSp_ok {K : List Fa} {g : Nat} {t : TypeId} {st : List Int} {a dom : Int} (hd : 0 ≤ dom ∧ dom < 256) (hp : st.length = 25 ∧ 0 ≤ a ∧ a ≤ 168) :
  Fn Tryz.prog 213 #[.pointer (some ⟨g, 0, none⟩)] (blk g t (us st ++ spT a dom false) :: K) (Ret (fun _ : Unit => True) (fun _ => .tuple #[]) (fun _ => blk g t (us (endS dom (st, a)) ++ spT 0 dom true) :: K)) := by
 refine fe_ Tryz.func213 Tryz.ntmps213 [(0, .pointer (some ⟨g, 0, none⟩))] ?_
 have hq := endQ_ok (p := (st, a)) hp
 obtain ⟨hl, h0, h1⟩ := hp
 refine go_ ?_; refine sc_join (fun _ : Unit => [(0, .pointer (some ⟨g, 0, none⟩))]) (fun _ => blk g t (us (endQ (st, a)).1 ++ spT (endQ (st, a)).2 dom false) :: K) (fun _ => True) ?_ ?_
 ·by_cases ha : a = 168
  ·subst ha; refine go_ ?_; refine slc_ rfl rfl sub_ (perm_ok hl) ?_; rintro _ -
   have hs2 := perm_len hl
   refine go_ ?_; exact se_mid () has_ sub_ trivial
  ·have he : endQ (st, a) = (st, a) := if_neg ha
   rw [decide_eq_false ha]; refine go_ ?_; exact se_mid () has_ (by rw [he]; exact sub_) trivial
 rintro _ -
 unfold endS
 generalize endQ (st, a) = p at hq ⊢
 obtain ⟨s, q⟩ := p
 obtain ⟨hs, hq0, hq1⟩ := hq
 replace hs : s.length = 25 := hs
 replace hq0 : 0 ≤ q := hq0
 replace hq1 : q < 168 := hq1
 dsimp only; refine go_ ?_; refine sd_drawn (fun W => AllP W [blk g t (us s ++ spT q dom false)]) (fun i => !(List.contains [9] i)) (by kernel_rfl) 10 rfl ?_; refine y4_ 0 1 2 3 ?_; refine y4_ 4 5 6 7 ?_; refine wy_ 8 ?_; refine w1_ 9 ?_; refine slc_ rfl rfl sub_ (flip_ok (tl := spT q dom false) hs (by omega) (by omega) hd) ?_; rintro _ -; refine sl_nil ?_; refine se_sd (fun h => absurd h (by decide)) ?_; refine wx_ ?_; refine go_ ?_; refine slc_ rfl rfl sub_ (flip_ok (tl := spT q dom false) (by rw [flp_len, hs]) (by omega) (by omega) (by omega)) ?_; rintro _ -; refine go_ ?_; refine slc_ rfl rfl sub_ (perm_ok (by rw [flp_len, flp_len, hs])) ?_; rintro _ -
 have hs3 : (perm (flp (flp s q dom) 167 128)).length = 25 := perm_len (by rw [flp_len, flp_len, hs])
 refine go_ ?_; exact se_end0 () trivial rfl rfl sub_
def rd1 (p : List Int × Int × List Int) : List Int × Int × List Int := ((endQ (p.1, p.2.1)).1, (endQ (p.1, p.2.1)).2 + 1, p.2.2 ++ [IntKind.u8.wrap ((endQ (p.1, p.2.1)).1.getD ((endQ (p.1, p.2.1)).2 / 8).toNat 0 / 2 ^ (8 * ((endQ (p.1, p.2.1)).2 % 8)).toNat)])
def rdL (s : List Int) : Nat → List Int × Int × List Int
 | 0 => (s, 0, [])
 | k + 1 => rd1 (rdL s k)
theorem rdL_ok {s : List Int} (h : s.length = 25) : ∀ k, (rdL s k).1.length = 25 ∧ 0 ≤ (rdL s k).2.1 ∧ (rdL s k).2.1 ≤ 168 ∧ (rdL s k).2.2.length = k ∧ IsBytes (rdL s k).2.2
 | 0 => ⟨h, by show (0 : Int) ≤ 0; decide, by show (0 : Int) ≤ 168; decide, rfl, fun x hx => by cases hx⟩
 | k + 1 => by
  obtain ⟨h1, h2, h3, h4, h5⟩ := rdL_ok h k
  have hq := endQ_ok (p := ((rdL s k).1, (rdL s k).2.1)) ⟨h1, h2, h3⟩
  refine ⟨hq.1, ?_, ?_, ?_, ?_⟩
  ·show 0 ≤ (endQ ((rdL s k).1, (rdL s k).2.1)).2 + 1
   omega
  ·show (endQ ((rdL s k).1, (rdL s k).2.1)).2 + 1 ≤ 168
   omega
  ·show ((rdL s k).2.2 ++ [_]).length = k + 1
   simp [h4]
  ·refine IsBytes.app h5 (fun x hx => ?_)
   rw [List.mem_singleton] at hx
   subst hx; rw [IntKind.wrap_u8]; omega
theorem readSp_ok {K : List Fa} {g n : Nat} {t : TypeId} {st : List Int} {a dom : Int} (hd : 0 ≤ dom ∧ dom < 256) (hn : n ≤ 65536) (hp : st.length = 25 ∧ 0 ≤ a ∧ a ≤ 168) :
  Fn Tryz.prog 189 #[.pointer (some ⟨g, 0, none⟩), .int .i64 n] (blk g t (us st ++ spT a dom false) :: K) (Ret (fun _ : Option Addr × Nat => True) (fun p => .slice p.1 n p.2) (fun p => own 5 1 p.1 n p.2 (bytes (rdL (endS dom (st, a)) n).2.2) :: K)) := by
 refine fe_ Tryz.func189 Tryz.ntmps189 [(0, .pointer (some ⟨g, 0, none⟩)), (1, .int .i64 n)] ?_
 have hl := hp.1
 have hes := endS_len (dom := dom) (p := (st, a)) hp
 refine go_ ?_; refine slc_ rfl rfl sub_ (endSp_ok hd hp) ?_; rintro _ -
 generalize endS dom (st, a) = s at hes ⊢
 have hm : (if (65536 : Int) < (n : Int) then (65536 : Int) else n) = n := if_neg (by omega)
 refine go_ ?_; rw [hm]; refine sl_make (lo := .tmp 0) (i := default) (k := 0) rfl rfl rfl Tryz.info5 (by omega) (by omega) (by unfold maxLen; omega) rfl ?_; intro go; rw [show ((madeCells (Value.int .u8 0).cells (n * 1)).toList.take (0 * 1)) = [] from rfl]; refine go_ ?_; rw [hm]; refine go_ ?_; refine sc_for (fun p : Nat × Option Addr × Nat => [(0, .pointer (some ⟨g, 0, none⟩)), (5, .slice p.2.1 p.1 p.2.2), (23, .int .i64 n), (24, .int .i64 p.1)]) (fun p => own 5 1 p.2.1 p.1 p.2.2 (bytes (rdL s p.1).2.2) :: blk g t (us (rdL s p.1).1 ++ spT (rdL s p.1).2.1 dom true) :: K) (fun p => p.1 ≤ n) (fun p => n - p.1) (0, some ⟨go, 0, none⟩, n) has_ sub_ (Nat.zero_le _) ?_; rintro ⟨k, A, c⟩ hk
 replace hk : k ≤ n := hk
 dsimp only
 by_cases hlt : k < n
 ·obtain ⟨r1, r2, r3, r4, r5⟩ := rdL_ok hes k
  have hst : rdL s (k + 1) = rd1 (rdL s k) := rfl
  generalize rdL s k = p at *
  obtain ⟨s1, q, out⟩ := p
  replace r1 : s1.length = 25 := r1
  replace r2 : 0 ≤ q := r2
  replace r3 : q ≤ 168 := r3
  replace r4 : out.length = k := r4
  dsimp only
  have hq := endQ_ok (p := (s1, q)) ⟨r1, r2, r3⟩
  refine go_ ?_; refine sc_join (fun _ : Unit => [(0, .pointer (some ⟨g, 0, none⟩)), (5, .slice A k c), (23, .int .i64 n), (24, .int .i64 k)]) (fun _ => own 5 1 A k c (bytes out) :: blk g t (us (endQ (s1, q)).1 ++ spT (endQ (s1, q)).2 dom true) :: K) (fun _ => True) ?_ ?_
  ·by_cases ha : q = 168
   ·subst ha; refine go_ ?_; refine slc_ rfl rfl sub_ (perm_ok r1) ?_; rintro _ -
    have hs2 := perm_len r1
    refine go_ ?_; exact se_mid () has_ sub_ trivial
   ·have he : endQ (s1, q) = (s1, q) := if_neg ha
    rw [decide_eq_false ha]; refine go_ ?_; exact se_mid () has_ (by rw [he]; exact sub_) trivial
  rintro _ -
  have hst' : rdL s (k + 1) = ((endQ (s1, q)).1, (endQ (s1, q)).2 + 1, out ++ [IntKind.u8.wrap ((endQ (s1, q)).1.getD ((endQ (s1, q)).2 / 8).toNat 0 / 2 ^ (8 * ((endQ (s1, q)).2 % 8)).toNat)]) := hst
  clear hst
  generalize endQ (s1, q) = e at *
  obtain ⟨s2, q2⟩ := e
  obtain ⟨e1, e2, e3⟩ := hq
  replace e1 : s2.length = 25 := e1
  replace e2 : 0 ≤ q2 := e2
  replace e3 : q2 < 168 := e3
  dsimp only at hst' ⊢
  refine go_ ?_; refine dr_ [blk g t (us s2 ++ spT q2 dom true)] 22 ?_; refine y4_ 0 1 2 3 ?_; refine y4_ 4 5 6 7 ?_; refine y4_ 8 9 10 11 ?_; refine y4_ 12 13 14 15 ?_; refine y2_ 16 17 ?_; refine wy_ 18 ?_; refine w1_ 19 ?_; refine sl_build (size := 1) (e := 5) (cells := bytes [IntKind.u8.wrap (s2.getD (q2 / 8).toNat 0 / 2 ^ (8 * (q2 % 8)).toNat)]) rfl (fun W => by kernel_rfl) rfl (by decide) rfl ?_; intro gb; refine v1_ 20 ?_; refine sl_app rfl pick_ rfl (Vw.of_own at_) (one_bytes _) rfl Tryz.info5 (by decide) (by decide) rfl (by unfold maxLen; omega) (by omega) ?_; intro A2 c2; rw [← bytes_app]; refine vy_ 21 ?_; refine wx_ ?_; refine go_ ?_; exact se_round (k + 1, A2, c2) has_ (by rw [hst']; exact sub_) hlt (by show n - (k + 1) < n - k; omega)
 obtain rfl : k = n := by omega
 refine go_ ?_; exact r1_ (A, c)
def hashL (dom : Int) (bs : List Int) (n : Nat) : List Int := (rdL (endS dom (wrL bs (z25, 0))) n).2.2
theorem z_ok : z25.length = 25 ∧ (0 : Int) ≤ 0 ∧ (0 : Int) ≤ 168 := ⟨z25_len, by decide, by decide⟩
theorem hashL_ok (dom : Int) (bs : List Int) (n : Nat) : (hashL dom bs n).length = n ∧ IsBytes (hashL dom bs n) := (rdL_ok (endS_len (dom := dom) (wrL_ok bs (p := (z25, 0)) z_ok)) n).2.2.2
theorem hash_ok {K : List Fa} {m c n : Nat} {A : Option Addr} {bs : List Int} {dom : Int} (h0 : 1 ≤ dom) (h1 : dom ≤ 127) (hn : n ≤ 65536) (hr : Vw K (fun w => Reads w 1 A m (bytes bs))) (hb : IsBytes bs) (hl : bs.length = m) (hm : m ≤ 70368744177664) :
  Fn Tryz.prog 149 #[.int .u8 dom, .slice A m c, .int .i64 n] K (Ret (fun _ : Option Addr × Nat => True) (fun p => .slice p.1 n p.2) (fun p => own 5 1 p.1 n p.2 (bytes (hashL dom bs n)) :: K)) := by
 refine fe_ Tryz.func149 Tryz.ntmps149 [(0, .int .u8 dom), (1, .slice A m c), (2, .int .i64 n)] ?_; refine go_ ?_; refine slc_ rfl rfl sub_ (newSp_ok h0 h1) ?_; rintro g -; refine go_ ?_; refine slc_ rfl rfl sub_ (writeSp_ok hr hl hb hm z_ok) ?_; rintro _ -; refine go_ ?_
 have hw := wrL_ok bs (p := (z25, 0)) z_ok
 refine slc_ rfl rfl sub_ (readSp_ok (by omega) hn hw) ?_; rintro ⟨A2, c2⟩ -; refine go_ ?_; exact r1_ (A2, c2)
end
end
section
open Go.RowKit
section
variable {P : Program} {ops : Array Oper} {Q : Exit → Act → World → Prop} {S : World → Prop} {need : Nat → Bool} {fuel : Nat} {listed : Array Bool} {n : Nat} {l : Env} {L : List Fa} {d : Tmp} {op : Op} {ty : TypeId} {pos : String} {after : Array Edge}
theorem sd_off3 (i : Nat) {j t : Nat} {b : Bool} (hi : ops[i]? = some ⟨some d, op, ty, pos, after, some (j, b)⟩) (hj : (ops[j]?).bind (·.dst) = some t) (ht : lk l t = some undef) (hB : freeOk ops listed i = true) (hN : stayOk2 ops listed need i = true)
  (hQ : NoP Q) (hd : Nat.blt d n = true) (hS : ∀ w, Sep w L → S w) (h : SD P ops Q S need fuel (listed.setIfInBounds i true) n ((d, undef) :: l) L) : SD P ops Q S need (fuel + 1) listed n l L := sd_of fun w hw => by
 have h1 := h.to hw
 unfold WD at h1 ⊢
 intro a hs
 have hwant : Region.wanted ⟨some d, op, ty, pos, after, some (j, b)⟩ (yielded ops a.tmps) = false := by
  have h2 : ((none : Option Bool) == some b) = false := rfl
  simp only [Region.wanted, hs.unyield hj ht, h2]
 obtain ⟨b1, b2, b3⟩ := freeOk_spec hB
 exact wpAnyD_first2 (R := fun j => ∃ f, waitsFor ops listed i f j = true) hi (Region.noSelect_spec b1) (fun c a w => hQ c a _ _ w) (fun j oj ⟨f, hf⟩ hj => waitsFor_edge hf hj) fuel listed a w (fun j oj hj hji hun hnR => stayOk2_spec hN j oj hj hji hun hnR) (fun j ⟨f, hf⟩ => waitsFor_un hf) (Region.free_spec hi b2) (by simpa using b3) (.inr ⟨hwant, rfl⟩) (hS w hw) (h1 _ (hs.put hd undef))
theorem wp_ (i : Nat) {j t : Nat} {b : Bool} (h : SD P ops Q S need fuel (listed.setIfInBounds i true) n ((d, undef) :: l) L) (hi : ops[i]? = some ⟨some d, op, ty, pos, after, some (j, b)⟩ := by exact rfl) (hj : (ops[j]?).bind (·.dst) = some t := by exact rfl) (ht : lk l t = some undef := by exact rfl) (hB : freeOk ops listed i = true := by kernel_rfl) (hN : stayOk2 ops listed need i = true := by kernel_rfl) (hQ : NoP Q := by exact nop_) (hd : Nat.blt d n = true := by exact rfl) (hS : ∀ w, Sep w L → S w := by exact fun w hw => all_ hw) : SD P ops Q S need (fuel + 1) listed n l L := sd_off3 i hi hj ht hB hN hQ hd hS h
end
attribute [local irreducible] Go.Calls Go.Exit.then Go.Exit.inBlock Go.bodyPost Go.Code.wp Go.wpList
section
theorem xor_b8 (x y : Int) : 0 ≤ bits .xor .u8 x y ∧ bits .xor .u8 x y < 256 := by
 have h : ∀ z : Int, 0 ≤ IntKind.u8.wrap z ∧ IntKind.u8.wrap z < 256 := fun z => by
  rw [IntKind.wrap_u8]; omega
 unfold bits
 exact h _
theorem zip_bytes : ∀ (a b : List Int), IsBytes (List.zipWith (bits .xor .u8) a b) := fun a b x hx => by
 obtain ⟨i, hi, rfl⟩ := List.getElem_of_mem hx
 rw [List.getElem_zipWith]; exact xor_b8 _ _
def xorI (a b : Id) : Id := ⟨List.zipWith (bits .xor .u8) a.l b.l, by simp [a.len, b.len], zip_bytes _ _⟩
theorem Id.len_b (a : Id) : (bytes a.l).length = 16 := by rw [bytes_length, a.len]
def mixI (a b : Id) (j : Nat) : List Int := (xorI a b).l.take j ++ a.l.drop j
theorem mixI_zero (a b : Id) : mixI a b 0 = a.l := by simp [mixI]
theorem mixI_all (a b : Id) : mixI a b 16 = (xorI a b).l := by
 unfold mixI
 rw [List.take_of_length_le (by rw [(xorI a b).len]; decide), List.drop_eq_nil_of_le (by rw [a.len]; decide), List.append_nil]
theorem mixI_len (a b : Id) {j : Nat} (h : j ≤ 16) : (mixI a b j).length = 16 := by simp [mixI, (xorI a b).len, a.len]; omega
theorem id_at (a : Id) {j : Nat} (h : j < 16) : j < a.l.length := by rw [a.len]; exact h
theorem mixI_at (a b : Id) {j : Nat} (h : j < 16) : nth (bytes (mixI a b j)) (0 + j * 1) = some (.int .u8 (a.l[j]'(id_at a h))) := by
 have h1 := id_at a h
 rw [nth_eq, Nat.zero_add, Nat.mul_one]
 unfold bytes mixI
 rw [List.getElem?_map, List.getElem?_append_right (by simp; omega), List.length_take, (xorI a b).len, Nat.min_eq_left (by omega), Nat.sub_self, List.getElem?_drop, Nat.add_zero, List.getElem?_eq_getElem h1]
 rfl
theorem id_nth (b : Id) {j : Nat} (h : j < 16) : nth (bytes b.l) (0 + j * 1) = some (.int .u8 (b.l[j]'(id_at b h))) := by
 rw [nth_eq, Nat.zero_add, Nat.mul_one]
 unfold bytes
 rw [List.getElem?_map, List.getElem?_eq_getElem (id_at b h)]
 rfl
theorem mixI_set (a b : Id) {j : Nat} (h : j < 16) : SetAt (0 + j * 1) (.int .u8 (bits .xor .u8 (a.l[j]'(id_at a h)) (b.l[j]'(id_at b h)))) (bytes (mixI a b j)) (bytes (mixI a b (j + 1))) := by
 have h0 := id_at (xorI a b) h
 have h1 := id_at a h
 rw [Nat.zero_add, Nat.mul_one]
 have h2 := SetAt.mk (i := j) (v := .int .u8 (bits .xor .u8 (a.l[j]'(id_at a h)) (b.l[j]'(id_at b h)))) (r := bytes (mixI a b j)) (by rw [bytes_length, mixI_len a b (by omega)]; exact h)
 have h3 : (bytes (mixI a b j)).set j (.int .u8 (bits .xor .u8 (a.l[j]'(id_at a h)) (b.l[j]'(id_at b h)))) = bytes (mixI a b (j + 1)) := by
  have e : bits .xor .u8 (a.l[j]'(id_at a h)) (b.l[j]'(id_at b h)) = (xorI a b).l[j] := by simp [xorI]
  rw [e, show Value.int .u8 (xorI a b).l[j] = (fun x => Value.int .u8 x) (xorI a b).l[j] from rfl]
  unfold bytes
  rw [← List.map_set]
  congr 1
  unfold mixI
  rw [List.set_append_right _ _ (by simp; omega), List.length_take, Nat.min_eq_left (by rw [(xorI a b).len]; omega), Nat.sub_self, List.drop_eq_getElem_cons h1, List.set_cons_zero, List.take_succ_eq_append_getElem h0, List.append_assoc]
  rfl
 rw [h3] at h2
 exact h2
def ofId (a : Id) : Id := ⟨hashL 7 a.l 16, (hashL_ok 7 a.l 16).1, (hashL_ok 7 a.l 16).2⟩
theorem ofId_l (a : Id) : (ofId a).l = hashL 7 a.l 16 := rfl
theorem hash_len (a : Id) : (bytes (hashL 7 a.l 16)).length = 16 := Id.len_b (ofId a)
attribute [local irreducible] hashL ofId
def zId : Id := ⟨List.replicate 16 0, rfl, fun x hx => by rw [List.eq_of_mem_replicate hx]; decide⟩
theorem zId_cells : bytes zId.l = [.int .u8 0, .int .u8 0, .int .u8 0, .int .u8 0, .int .u8 0, .int .u8 0, .int .u8 0, .int .u8 0, .int .u8 0, .int .u8 0, .int .u8 0, .int .u8 0, .int .u8 0, .int .u8 0, .int .u8 0, .int .u8 0] := rfl
theorem take_zero_all {a b : List Value} (h : b.length = a.length) : a.take 0 ++ b ++ a.drop (0 + b.length) = b := by
 rw [List.take_zero, List.nil_append, Nat.zero_add, h, List.drop_length, List.append_nil]
namespace pGe
theorem nthx_ (h : φ := by first | exact mixI_at _ _ (by omega) | exact id_nth _ (by omega)) : φ := h
theorem szx_ (h : φ := by ((rw [bytes_length, Id.len]; rfl); first | done | fail)) : φ := h
theorem setx_ (h : φ := by exact mixI_set _ _ (by omega)) : φ := h
end pGe
open pGe
theorem with_ok {K : List Fa} {a b : Id} : Fn Tryz.prog 120 #[a.v, b.v] K (Ret (fun _ : Unit => True) (fun _ => (xorI a b).v) (fun _ => K)) := by
 refine fe_ Tryz.func120 Tryz.ntmps120 [(0, a.v), (1, b.v)] ?_; refine go_ ?_; refine bx_ ?_; intro g1; refine go_ ?_; refine bx_ ?_; intro g2; refine go_ ?_; refine al_ ?_; intro g3; refine go_ ?_; refine sc_for (fun j : Nat => [(2, .pointer (some ⟨g1, 0, none⟩)), (3, .pointer (some ⟨g2, 0, none⟩)), (4, .pointer (some ⟨g3, 0, none⟩)), (6, .int .i64 j)]) (fun j => blk g1 56 (bytes (mixI a b j)) :: blk g2 56 (bytes b.l) :: blk g3 56 (bytes zId.l) :: K) (fun j => j ≤ 16) (fun j => 16 - j) 0 has_ (by rw [mixI_zero, zId_cells]; exact sub_) (by omega) ?_; intro j hj
 by_cases hlt : j < 16
 ·refine go_ ?_; refine sd_drawn (fun W => AllP W [blk g1 56 (bytes (mixI a b j)), blk g2 56 (bytes b.l)]) (fun i => !(List.contains [8] i)) (by kernel_rfl) 9 rfl ?_; refine y4_ 0 1 2 3 ?_; refine y4_ 4 5 6 7 ?_; refine w1_ 8 ?_; refine sto_ ?_; refine sl_nil ?_; refine se_sd (fun h => absurd h (by decide)) ?_; refine wx_ ?_; refine go_ ?_; exact se_round (j + 1) has_ sub_ hlt (by omega)
 obtain rfl : j = 16 := by omega
 rw [mixI_all]; refine go_ ?_; refine sl_store_whole rfl pick_ rfl (by rw [Id.len_b]; rfl) (by rw [Id.len_b, Id.len_b]) (one_bytes _) ?_; refine go_ ?_; exact se_ret_c () trivial rfl rfl at_ rfl rfl (by rw [Id.len_b]; rfl) rfl sub_
theorem ofId_ok {K : List Fa} {a : Id} : Fn Tryz.prog 121 #[a.v] K (Ret (fun _ : Unit => True) (fun _ => (ofId a).v) (fun _ => K)) := by
 refine fe_ Tryz.func121 Tryz.ntmps121 [(0, a.v)] ?_; refine go_ ?_; refine bx_ ?_; intro g1; refine go_ ?_; refine al_ ?_; intro g2; refine go_ ?_; refine al_ ?_; intro g3; refine go_ ?_; refine dr_ [] 4 ?_; refine y2_ 0 1 ?_; refine w1_ 2 ?_; refine slc_ rfl rfl sub_ (hash_ok (n := 16) (bs := a.l) (by decide) (by decide) (by decide) (Vw.of_blk at_ (Id.len_b a)) a.ok a.len (by decide)) ?_; rintro ⟨A1, c1⟩ -; refine sl_know (own_form_at (e := 5) (size := 1) (A := A1) (m := 16) (c := c1) (xs := bytes (hashL 7 a.l 16)) at_ (by decide)) ?_; rintro ⟨gh, rfl⟩; refine v1_ 3 ?_; refine sl_copy_blk (kk := 16) (size := 1) (cs := bytes (hashL 7 a.l 16)) rfl pick_ rfl rfl rfl rfl (hash_len a) (own_cells (e := 5) (size := 1) (k := 16) (c := c1) (xs := bytes (hashL 7 a.l 16)) (o := 0) at_ Mid.all (by decide)) (by rw [hash_len]; decide) (one_bytes _) rfl ?_; rw [take_zero_all (hash_len a), ← ofId_l]; refine vx_ ?_; refine go_ ?_; exact se_ret_c () trivial rfl rfl at_ rfl rfl (by rw [Id.len_b]; rfl) rfl sub_
end
section
def eC (v : Int) : List Value := [.int .u64 (v % 18446744073709551616), .int .u64 (v / 18446744073709551616)]
theorem eC_len (v : Int) : (eC v).length = 2 := rfl
theorem eC_one (v : Int) : ∀ u ∈ eC v, u.oneCell' = true := by
 intro u hu
 simp only [eC, List.mem_cons, List.not_mem_nil, or_false] at hu
 rcases hu with rfl | rfl <;> rfl
def El (v : Int) : Prop := 0 ≤ v ∧ v < 340282366920938463463374607431768211456
theorem El.lo {v : Int} : 0 ≤ v % 18446744073709551616 ∧ v % 18446744073709551616 < 18446744073709551616 := by omega
theorem El.hi {v : Int} (h : El v) : 0 ≤ v / 18446744073709551616 ∧ v / 18446744073709551616 < 18446744073709551616 := by unfold El at h; omega
theorem eC_of {a b : Int} (ha : 0 ≤ a ∧ a < 18446744073709551616) : [Value.int .u64 a, .int .u64 b] = eC (a + 18446744073709551616 * b) := by
 unfold eC
 rw [show (a + 18446744073709551616 * b) % 18446744073709551616 = a by omega, show (a + 18446744073709551616 * b) / 18446744073709551616 = b by omega]
theorem El.of {a b : Int} (ha : 0 ≤ a ∧ a < 18446744073709551616) (hb : 0 ≤ b ∧ b < 18446744073709551616) : El (a + 18446744073709551616 * b) := by unfold El; omega
def sub64Row : Array Value → Sem Value := fun args => do
 let (x, y, b) ← Extern.MathBitsCarry.three "Sub64" args
 pure (Extern.MathBitsCarry.pair ((x + Extern.MathBitsCarry.m64 - y - b) % Extern.MathBitsCarry.m64) (if x < y + b then 1 else 0))
theorem add64_row (args : Array Value) (w : World) : (callFunc 210 args).run Tryz.prog w = (add64Entry args >>= fun v => pure (Next.value v)).run Tryz.prog w := by kernel_rfl
theorem sub64_row (args : Array Value) (w : World) : (callFunc 219 args).run Tryz.prog w = (sub64Row args >>= fun v => pure (Next.value v)).run Tryz.prog w := by kernel_rfl
theorem run_a64 {x y c : Int} (hx : 0 ≤ x) (hy : 0 ≤ y) (hc : 0 ≤ c ∧ c ≤ 1) (w : World) : (callFunc 210 #[.int .u64 x, .int .u64 y, .int .u64 c]).run Tryz.prog w = .ok (.value (.tuple #[.int .u64 ((x + y + c) % 18446744073709551616), .int .u64 ((x + y + c) / 18446744073709551616)])) w := by
 rw [add64_row, Sem.run_bind, run_add64 x y c hx hy hc.1 hc.2]
 rfl
theorem run_s64 {x y c : Int} (hx : 0 ≤ x) (hy : 0 ≤ y ∧ y < 18446744073709551616) (hc : 0 ≤ c ∧ c ≤ 1) (w : World) : (callFunc 219 #[.int .u64 x, .int .u64 y, .int .u64 c]).run Tryz.prog w = .ok (.value (.tuple #[.int .u64 ((x - y - c) % 18446744073709551616), .int .u64 (if x < y + c then 1 else 0)])) w := by
 rw [sub64_row, Sem.run_bind]
 have key : ∀ k : Nat, k ≤ 1 → (sub64Row #[.int .u64 x, .int .u64 y, .int .u64 (k : Int)]).run Tryz.prog w =
   .ok (Extern.MathBitsCarry.pair ((x.toNat + Extern.MathBitsCarry.m64 - y.toNat - k) % Extern.MathBitsCarry.m64) (if x.toNat < y.toNat + k then 1 else 0)) w := by
  intro k hk
  have : k = 0 ∨ k = 1 := by omega
  rcases this with rfl | rfl <;> rfl
 obtain ⟨k, rfl⟩ := Int.eq_ofNat_of_zero_le hc.1
 rw [key k (by omega)]
 obtain ⟨X, rfl⟩ := Int.eq_ofNat_of_zero_le hx
 obtain ⟨Y, rfl⟩ := Int.eq_ofNat_of_zero_le hy.1
 simp only [Extern.MathBitsCarry.pair, Extern.MathBitsCarry.m64, Int.toNat_natCast]
 have e1 : Int.ofNat ((X + 2 ^ 64 - Y - k) % 2 ^ 64) = ((X : Int) - Y - k) % 18446744073709551616 := by
  simp only [Int.ofNat_eq_natCast]
  omega
 have e2 : Int.ofNat (if X < Y + k then 1 else 0) = if (X : Int) < Y + k then 1 else 0 := by
  by_cases h : X < Y + k
  ·rw [if_pos h, if_pos (by omega)]; rfl
  ·rw [if_neg h, if_neg (by omega)]; rfl
 rw [e1, e2]
 rfl
namespace pGa
theorem onex_ (h : φ := by first | exact eC_one _ | exact one_bytes _) : φ := h
end pGa
open pGa
theorem gOf_ok {K : List Fa} {a : Int} (h : 0 ≤ a ∧ a < 18446744073709551616) : Fn Tryz.prog 161 #[.int .u64 a] K (Ret (fun _ : Unit => True) (fun _ => .int .u64 (a % 18446744069414584321)) (fun _ => K)) := by
 refine fe_ Tryz.func161 Tryz.ntmps161 [(0, .int .u64 a)] ?_
 by_cases h1 : 18446744069414584321 ≤ a
 ·rw [show a % 18446744069414584321 = a - 18446744069414584321 by omega]; refine go_ ?_; exact r1_ ()
 ·rw [show a % 18446744069414584321 = a by omega]; refine go_ ?_; exact r1_ ()
theorem gAdd_ok {K : List Fa} {a b : Int} (ha : 0 ≤ a ∧ a < 18446744073709551616) (hb : 0 ≤ b ∧ b < 18446744073709551616) : Fn Tryz.prog 185 #[.int .u64 a, .int .u64 b] K (Ret (fun _ : Unit => True) (fun _ => .int .u64 ((a + b) % 18446744069414584321)) (fun _ => K)) := by
 refine fe_ Tryz.func185 Tryz.ntmps185 [(0, .int .u64 a), (1, .int .u64 b)] ?_; refine go_ ?_; refine slc_ rfl rfl sub_ (gOf_ok ha) ?_; rintro _ -; refine go_ ?_; refine slc_ rfl rfl sub_ (gOf_ok hb) ?_; rintro _ -; rw [show (a + b) % 18446744069414584321 = (a % 18446744069414584321 + b % 18446744069414584321) % 18446744069414584321 by omega]
 obtain ⟨x, hx⟩ : ∃ x, a % 18446744069414584321 = x := ⟨_, rfl⟩
 obtain ⟨y, hy⟩ : ∃ y, b % 18446744069414584321 = y := ⟨_, rfl⟩
 rw [hx, hy]
 have hx' : 0 ≤ x ∧ x < 18446744069414584321 := by omega
 have hy' : 0 ≤ y ∧ y < 18446744069414584321 := by omega
 clear hx hy ha hb
 refine sl_pu (pu_ext (cap := []) rfl rfl (fun W _ => run_a64 hx'.1 hy'.1 (by decide) W)) rfl ?_
 by_cases h1 : x + y < 18446744069414584321
 ·rw [show (x + y + 0) % 18446744073709551616 = x + y by omega, show (x + y + 0) / 18446744073709551616 = 0 by omega, show (x + y) % 18446744069414584321 = x + y by omega]; refine go_ ?_; exact r1_ ()
 by_cases h2 : x + y < 18446744073709551616
 ·rw [show (x + y + 0) % 18446744073709551616 = x + y by omega, show (x + y + 0) / 18446744073709551616 = 0 by omega, show (x + y) % 18446744069414584321 = x + y - 18446744069414584321 by omega]; refine go_ ?_; exact r1_ ()
 ·rw [show (x + y + 0) % 18446744073709551616 = x + y - 18446744073709551616 by omega, show (x + y + 0) / 18446744073709551616 = 1 by omega, show (x + y) % 18446744069414584321 = x + y - 18446744069414584321 by omega]
  obtain ⟨z, hz⟩ : ∃ z, x + y - 18446744073709551616 = z := ⟨_, rfl⟩
  rw [show x + y - 18446744069414584321 = z + 4294967295 by omega, hz]
  have hz' : 0 ≤ z ∧ z < 18446744065119617026 := by omega
  refine go_ ?_; rw [show IntKind.wrap .u64 (z - 18446744069414584321) = z + 4294967295 by simp [IntKind.wrap, IntKind.bits, IntKind.signed]; omega]; refine go_ ?_; exact r1_ ()
end
end
end Go.Proofs.YtocaabnbmcpjmaaGreat
