/- Several texts of one claim, one behind the other (Un1, Un2, Srt, Rd, Df, Rs, Rn, Dr, Kc). -/
import Derived.Test.YtocaabnbmcpjmaaGreatDoorB06
import Derived.Test.YtocaabnbmcpjmaaGreatDoorB04
import Derived.Shelf.SlSortCmp.NoneTotal
import Derived.Test.YtocaabnbmcpjmaaGreatDoorB05
import Derived.Ground.SlsfProg
set_option linter.unusedVariables false
set_option linter.unusedSimpArgs false
/- The law's own list: insert, same, has. -/
namespace Go.Proofs.YtocaabnbmcpjmaaGreatDoor
open Go.RowKit
attribute [local irreducible] Go.Calls Go.Exit.then Go.Exit.inBlock Go.bodyPost Go.Code.wp Go.wpList

instance : DecidableEq Seen := fun a b => if h : a.id.l = b.id.l ∧ a.t = b.t ∧ a.c = b.c then .isTrue (Seen.ext_ h.1 h.2.1 h.2.2) else .isFalse (fun e => h (by subst e; exact ⟨rfl, rfl, rfl⟩))
section
variable {C : World → Prop} {n : Nat} {l : Env} {ty t' : TypeId} {x y : Operand} {a b : Seen}
end

end Go.Proofs.YtocaabnbmcpjmaaGreatDoor
/- The law's own list: one more at its place; what a list has of an id. -/
namespace Go.Proofs.YtocaabnbmcpjmaaGreatDoor
open Go.RowKit
attribute [local irreducible] Go.Calls Go.Exit.then Go.Exit.inBlock Go.bodyPost Go.Code.wp Go.wpList

end Go.Proofs.YtocaabnbmcpjmaaGreatDoor
/- The library's sort, by the shelf's contract, over facts. No program is in sight. -/
namespace Go.Proofs.YtocaabnbmcpjmaaGreatDoor
open Go.RowKit Go.Sort Go.Shelf
section
variable {α : Type} [Inhabited α] {enc : α → Value} {w : World} {g n c size : Nat} {e : TypeId} {d : Array α} {P : Program} {f : FuncId} {args : Array Value} {K : List Fa}
end
end Go.Proofs.YtocaabnbmcpjmaaGreatDoor
/- Reports by their times; those of an id; without some. Plain. -/
namespace Go.Proofs.YtocaabnbmcpjmaaGreatDoor
open Go.RowKit Go.Sort
/-! One id. -/
/-! What became of one. -/
/-! Some of them. -/
/-! By their times, then by their ids. -/
end Go.Proofs.YtocaabnbmcpjmaaGreatDoor
/- slices.DeleteFunc over reports: those that are kept, in their order. -/
namespace Go.Proofs.YtocaabnbmcpjmaaGreatDoor
open Go.RowKit
attribute [local irreducible] Go.Calls Go.Exit.then Go.Exit.inBlock Go.bodyPost Go.Code.wp Go.wpList
section
variable {P : Program} {ops : Array Oper} {Q : Exit → Act → World → Prop} {n : Nat} {l : Env} {L L' : List Fa} {rest : List Oper} {ty t e : TypeId} {pos : String} {after : Array Edge} {x : Operand} {i m c size bytes : Nat} {A : Option Addr} {xs : List Value} {z v : Value} {op : Op} {w w' : World}
end
section
variable {K C : List Fa} {A : Option Addr} {c : Nat} {ss : List Seen} {fd : FuncId} {caps : List Value} {p : Seen → Bool}
end
end Go.Proofs.YtocaabnbmcpjmaaGreatDoor
/- The shelf's contract of slices.SortFunc at reports, laid at this program (printed by the kit's lay-plain), and over facts: of none. -/
namespace Go.Proofs.YtocaabnbmcpjmaaGreatDoor
open Go.Shelf Go.Sort Go.RowKit
end Go.Proofs.YtocaabnbmcpjmaaGreatDoor
/- ReplayNone: nil indexes. -/
namespace Go.Proofs.YtocaabnbmcpjmaaGreatDoor
open Go.RowKit
attribute [local irreducible] Go.Calls Go.Exit.then Go.Exit.inBlock Go.bodyPost Go.Code.wp Go.wpList
section
variable {K : List Fa}
end
end Go.Proofs.YtocaabnbmcpjmaaGreatDoor
/- replay: Set, Drop, Room; over facts. -/
namespace Go.Proofs.YtocaabnbmcpjmaaGreatDoor
open Go.RowKit
attribute [local irreducible] Go.Calls Go.Exit.then Go.Exit.inBlock Go.bodyPost Go.Code.wp Go.wpList
section
variable {K : List Fa} {x c : Nat} {A : Option Addr} {ss : List Seen} {lim : Int}
end
end Go.Proofs.YtocaabnbmcpjmaaGreatDoor
/- The permutation of package keccak: it gives some function of the state. -/
namespace Go.Proofs.YtocaabnbmcpjmaaGreatDoor
open Go.RowKit
attribute [local irreducible] Go.Calls Go.Exit.then Go.Exit.inBlock Go.bodyPost Go.Code.wp Go.wpList
def us (st : List Int) : List Value := st.map (Value.int .u64)
theorem us_len {st : List Int} : (us st).length = st.length := by simp [us]
theorem us_get {st : List Int} {j : Nat} (h : j < st.length) : (us st)[j]? = some (.int .u64 (st.getD j 0)) := by
  simp [us, List.getD, List.getElem?_eq_getElem h]
theorem us_nth {st : List Int} {tl : List Value} {j : Nat} (h : j < st.length) : nth (us st ++ tl) (0 + j * 1) = some (.int .u64 (st.getD j 0)) := by
  rw [nth_eq, Nat.zero_add, Nat.mul_one, List.getElem?_append_left (by rw [us_len]; exact h), us_get h]
theorem us_nth0 {st : List Int} {j : Nat} (h : j < st.length) : nth (us st) (0 + j * 1) = some (.int .u64 (st.getD j 0)) := by
  rw [nth_eq, Nat.zero_add, Nat.mul_one, us_get h]
theorem us_set {st : List Int} {tl : List Value} {j : Nat} {x : Int} (h : j < st.length) : SetAt (0 + j * 1) (.int .u64 x) (us st ++ tl) (us (st.set j x) ++ tl) := by
  rw [Nat.zero_add, Nat.mul_one]
  have h1 := SetAt.mk (i := j) (v := .int .u64 x) (r := us st ++ tl) (by rw [List.length_append, us_len]; omega)
  rw [List.set_append_left _ _ (by rw [us_len]; exact h)] at h1
  unfold us at h1 ⊢
  rwa [← List.map_set] at h1
theorem us_set0 {st : List Int} {j : Nat} {x : Int} (h : j < st.length) : SetAt (0 + j * 1) (.int .u64 x) (us st) (us (st.set j x)) := by
  have h1 := us_set (tl := []) (x := x) h
  rwa [List.append_nil, List.append_nil] at h1
theorem us_one {st : List Int} : ∀ v ∈ us st, v.oneCell' = true := by
  intro v hv
  obtain ⟨x, _, rfl⟩ := List.mem_map.1 hv
  rfl
def isv (st : List Int) : List Value := st.map (Value.int .i64)
theorem isv_nth {st : List Int} {j : Nat} (h : j < st.length) : nth (isv st) (0 + j * 1) = some (.int .i64 (st.getD j 0)) := by
  rw [nth_eq, Nat.zero_add, Nat.mul_one]
  simp [isv, List.getD, List.getElem?_eq_getElem h]
theorem us_put {st so : List Int} {tl : List Value} (h : so.length = st.length) : (us st ++ tl).take 0 ++ us so ++ (us st ++ tl).drop (0 + (us so).length) = us so ++ tl := by
  have h1 : (us so).length = (us st).length := by rw [us_len, us_len, h]
  rw [List.take_zero, List.nil_append, Nat.zero_add, h1, List.drop_left]
def rotl (x k : Int) : Int := bits .or .u64 (IntKind.u64.wrap (x * 2 ^ k.toNat)) (x / 2 ^ (64 - k).toNat)
def mixA (st : List Int) : Nat → List Int
  | 0 => [0, 0, 0, 0, 0]
  | k + 1 => (mixA st k).set ((k : Int) % 5).toNat (bits .xor .u64 ((mixA st k).getD ((k : Int) % 5).toNat 0) (st.getD k 0))
theorem mixA_len {st : List Int} : ∀ {k : Nat}, (mixA st k).length = 5
  | 0 => rfl
  | k + 1 => by rw [mixA, List.length_set]; exact mixA_len
def mixB (su st : List Int) : Nat → List Int
  | 0 => st
  | k + 1 => (mixB su st k).set k (bits .xor .u64 ((mixB su st k).getD k 0) (bits .xor .u64 (su.getD (((k : Int) + 4) % 5).toNat 0) (rotl (su.getD (((k : Int) + 1) % 5).toNat 0) 1)))
theorem mixB_len {su st : List Int} : ∀ {k : Nat}, (mixB su st k).length = st.length
  | 0 => rfl
  | k + 1 => by rw [mixB, List.length_set]; exact mixB_len
def tblL : List Int := [0, 1, 62, 28, 27, 36, 44, 6, 55, 20, 3, 10, 43, 25, 39, 41, 45, 15, 21, 8, 18, 2, 61, 56, 14]
def movA (st : List Int) : Nat → List Int
  | 0 => [0, 0, 0, 0, 0, 0, 0, 0, 0, 0, 0, 0, 0, 0, 0, 0, 0, 0, 0, 0, 0, 0, 0, 0, 0]
  | k + 1 => (movA st k).set ((k : Int) / 5 + 5 * ((2 * ((k : Int) % 5) + 3 * ((k : Int) / 5)) % 5)).toNat (rotl (st.getD k 0) (tblL.getD k 0))
theorem movA_len {st : List Int} : ∀ {k : Nat}, (movA st k).length = 25
  | 0 => rfl
  | k + 1 => by rw [movA, List.length_set]; exact movA_len
def benA (st : List Int) : Nat → List Int
  | 0 => [0, 0, 0, 0, 0, 0, 0, 0, 0, 0, 0, 0, 0, 0, 0, 0, 0, 0, 0, 0, 0, 0, 0, 0, 0]
  | k + 1 => (benA st k).set k (bits .xor .u64 (st.getD k 0) (bits .and .u64 (compl .u64 (st.getD ((k : Int) / 5 * 5 + ((k : Int) + 1) % 5).toNat 0)) (st.getD ((k : Int) / 5 * 5 + ((k : Int) + 2) % 5).toNat 0)))
theorem benA_len {st : List Int} : ∀ {k : Nat}, (benA st k).length = 25
  | 0 => rfl
  | k + 1 => by rw [benA, List.length_set]; exact benA_len
theorem tbl_bd : ∀ k : Nat, k < 25 → 0 ≤ tblL.getD k 0 ∧ tblL.getD k 0 < 64 := by decide
theorem tbl_len : tblL.length = 25 := rfl
def conL : List Int := [2147516555, 9223372036854775947, 9223372036854808713, 9223372036854808579, 9223372036854808578, 9223372036854775936, 32778, 9223372039002259466, 9223372039002292353, 9223372036854808704, 2147483649, 9223372039002292232]
theorem con_len : conL.length = 12 := rfl
def mixS (st : List Int) : List Int := mixB (mixA st 25) st 25
def movS (st : List Int) : List Int := movA st 25
def benS (st : List Int) : List Int := benA st 25
def perA (st : List Int) : Nat → List Int
  | 0 => st
  | k + 1 => (benS (movS (mixS (perA st k)))).set 0 (bits .xor .u64 ((benS (movS (mixS (perA st k)))).getD 0 0) (conL.getD k 0))
theorem perA_len {st : List Int} (h : st.length = 25) : ∀ {k : Nat}, (perA st k).length = 25
  | 0 => h
  | k + 1 => by rw [perA, List.length_set]; exact benA_len
theorem and_63 {k : Int} (h0 : 0 ≤ k) (h : k < 64) : bits .and .u64 k 63 = k := by
  obtain ⟨j, rfl⟩ : ∃ j : Nat, k = j := ⟨k.toNat, by omega⟩
  have hj : j < 64 := by omega
  clear h0 h
  revert j
  decide
theorem nth_Kc {φ : Prop} (h : φ := by (first | rfl | first | exact isv_nth (by rw [tbl_len]; omega) | exact us_nth (by first | omega | (simp only [mixA_len, mixB_len, movA_len, benA_len]; omega)) | exact us_nth0 (by first | omega | (simp only [mixA_len, mixB_len, movA_len, benA_len]; omega)))) : φ := h
theorem mid_Kc {φ : Prop} (h : φ := by (first | exact Mid.all | exact Mid.all | exact Mid.head)) : φ := h
theorem sz_Kc {φ : Prop} (h : φ := by (first | rfl | (first | (simp only [us_len, mixA_len, mixB_len, movA_len, benA_len]; rfl) | (simp only [us_len, *]; rfl) | simp only [us_len, mixA_len, mixB_len, movA_len, benA_len]; first | done | fail))) : φ := h
theorem one_Kc {φ : Prop} (h : φ := by (first | assumption | exact us_one | (simp only [List.mem_cons, List.not_mem_nil, or_false, forall_eq_or_imp, forall_eq]; decide) | exact one_bytes _ | (intro v hv; (repeat (rcases List.mem_cons.1 hv with rfl | hv; rfl)); cases hv))) : φ := h
theorem set_Kc {φ : Prop} (h : φ := by (first | (first | exact us_set (by first | omega | (simp only [mixA_len, mixB_len, movA_len, benA_len]; omega)) | exact us_set0 (by first | omega | (simp only [mixA_len, mixB_len, movA_len, benA_len]; omega))) | ((repeat (first | exact SetAt.here | apply SetAt.there)); first | done | fail))) : φ := h
theorem cl_Kc {φ : Prop} (h : φ := by first | rfl | exact .t | exact .f | exact .t (by omega) | exact .f (by omega) | exact .u | exact .i (by (first | exact .t (by omega) | exact .f (by omega) | exact .u | exact .i (by omega) | exact .v (by omega) | exact .b (by omega) | exact .w | rfl | omega)) | exact .v (by omega) | exact .b (by omega) | exact .q (by omega) | exact .w | exact .b (by exact at_) rfl (by exact nth_Kc) | exact .w (by exact at_) rfl rfl (by exact sz_Kc) | exact .s (by exact at_) (by exact mid_Kc) rfl rfl (by exact sz_Kc) | exact .z rfl rfl ⟨by kernel_rfl⟩ | exact .b rfl rfl ⟨by kernel_rfl⟩ | exact .a rfl rfl ⟨by kernel_rfl⟩ | exact .o rfl | exact .s | exact .n | exact .p rfl | exact .q rfl | exact .c rfl | exact .d rfl | exact .n rfl rfl (by omega) | exact .a rfl rfl (by omega) | exact .p rfl rfl (by omega) (by omega) | exact .y rfl rfl (by omega) (by omega) | exact .o (by exact at_) (by omega) rfl (by exact nth_Kc) | exact .m (by exact at_) (by omega) (by exact mid_Kc) rfl rfl (by exact sz_Kc) | exact .mlen (by exact at_) rfl | exact .t (by exact at_) rfl rfl (by first | exact True.intro | rfl) (by assumption) | exact .f (by exact at_) rfl rfl (by first | exact True.intro | rfl) (by assumption) rfl | exact .t1 (by exact at_) rfl rfl (by first | exact True.intro | rfl) (by assumption) | exact .f1 (by exact at_) rfl rfl (by first | exact True.intro | rfl) (by assumption) rfl | exact .tk (by exact at_) rfl (by assumption) (by assumption) | exact .fk (by exact at_) rfl (by assumption) (by assumption) rfl | exact .tk1 (by exact at_) rfl (by assumption) (by assumption) | exact .fk1 (by exact at_) rfl (by assumption) (by assumption) rfl | exact .r rfl rfl (by omega) (by omega) (by exact nth_Kc) rfl | exact .s rfl (by omega) (by assumption) | exact at_ | assumption | exact .r rfl rfl | exact .h rfl rfl rfl (by omega) | exact .l rfl rfl rfl (by omega) (by omega) | exact .g rfl rfl rfl rfl (by omega) (by omega) | exact .h rfl rfl (toN_ (by omega)) (by omega) | exact .l rfl rfl (toN_ (by omega)) (by omega) (by omega) | exact .g rfl rfl (toN_ (by omega)) (toN_ (by omega)) (by omega) (by omega) | exact .o (by decide) | exact .f (by decide) | exact .n (by omega) (by first | decide | (show _ ≤ ((64 : Nat) : Int); omega)) | (constructor; (repeat (first | exact .t (by omega) | exact .f (by omega) | exact .u | exact .i (by omega) | exact .v (by omega) | exact .b (by omega) | exact .w | rfl | omega)); first | done | fail) | omega | (show _ ≤ ((64 : Nat) : Int); omega)) : φ := h
theorem pv_Kc {φ : Prop} (h : φ := by constructor; (repeat exact cl_Kc); first | done | fail) : φ := h
theorem su_Kc {φ ψ : Prop} (k : ψ) (h : Hide ψ → φ := by (intro k; (first | refine sl_pu (PuI.sep (by exact pv_Kc)) rfl ?_ | refine sl_yes rfl rfl ?_ | refine sl_no rfl rfl rfl ?_ | refine sl_off rfl rfl rfl ?_ | (fail)); exact k.out)) : φ := h ⟨k⟩
theorem rq_Kc {φ ψ : Prop} (k : ψ) (h : Hide ψ → φ := by (intro k; (first | refine wq_pu (PuI.sep (by exact pv_Kc)) rfl ?_ | refine wq_yes rfl rfl ?_ | refine wq_no rfl rfl rfl ?_ | refine wq_off rfl rfl rfl ?_ | (fail)); exact k.out)) : φ := h ⟨k⟩
theorem sto_Kc {φ ψ : Prop} (k : ψ) (h : Hide ψ → φ := by (intro k; (first | refine sl_store rfl (by exact pick_) rfl rfl (by kernel_rfl) (by exact set_Kc) ?_ | refine sl_store_whole rfl (by exact pick_) rfl (by exact sz_Kc) (by exact sz_Kc) (by exact one_Kc) ?_); exact k.out)) : φ := h ⟨k⟩
theorem go_Kc {φ ψ : Prop} (k : ψ) (h : Hide ψ → φ := by (intro k; (repeat (first | refine su_Kc ?_ | refine so_ ?_ | refine sto_Kc ?_)); exact k.out)) : φ := h ⟨k⟩
set_option maxRecDepth 100000 in
set_option maxHeartbeats 4000000 in
theorem rotl_ok {K : List Fa} {x k : Int} (h0 : 0 ≤ k) (h : k < 64) :
    Fn Tryz.prog 230 #[.int .u64 x, .int .i64 k] K (Ret (fun _ : Unit => True) (fun _ => .int .u64 (rotl x k)) (fun _ => K)) := by
  refine fn_enter Tryz.func230 rfl _ Tryz.ntmps230 (by simp) [(0, .int .u64 x), (1, .int .i64 k)] (args_of (by simp)) ?_
  have h63 := and_63 h0 h
  refine sc_seq ?_
  refine sc_region ?_
  repeat refine su_Kc ?_
  refine sl_nil ?_
  refine se_seq ?_
  refine sc_seq ?_
  refine sc_region ?_
  repeat refine su_Kc ?_
  rw [h63]
  refine go_Kc ?_
  exact se_ret1 () trivial rfl rfl (by exact sub_)
set_option maxRecDepth 100000 in
set_option maxHeartbeats 4000000 in
theorem mix_ok {K : List Fa} {g : Nat} {t : TypeId} {st : List Int} {tl : List Value} (hl : st.length = 25) :
    Fn Tryz.prog 207 #[.pointer (some ⟨g, 0, none⟩)] (blk g t (us st ++ tl) :: K) (Ret (fun _ : Unit => True) (fun _ => .tuple #[]) (fun _ => blk g t (us (mixS st) ++ tl) :: K)) := by
  refine fn_enter Tryz.func207 rfl _ Tryz.ntmps207 (by simp) [(0, .pointer (some ⟨g, 0, none⟩))] (args_of (by simp)) ?_
  refine go_Kc ?_
  refine sl_alloc rfl rfl rfl ?_; intro gs
  refine go_Kc ?_
  refine sc_for (fun k : Nat => [(0, .pointer (some ⟨g, 0, none⟩)), (2, .pointer (some ⟨gs, 0, none⟩)), (6, .pointer (some ⟨g, 0, none⟩)), (7, .int .i64 k)]) (fun k => blk gs 325 (us (mixA st k)) :: blk g t (us st ++ tl) :: K) (fun k => k ≤ 25) (fun k => 25 - k) 0 (by exact has_) (by exact sub_) (by omega) ?_
  intro k hk
  by_cases hlt : k < 25
  · refine go_Kc ?_
    ((refine sq_region (by kernel_rfl) (by kernel_rfl) ?_; (repeat refine rq_Kc ?_); refine sq_end ?_))
    refine go_Kc ?_
    exact se_round (k + 1) (by exact has_) (by exact sub_) hlt (by omega)
  obtain rfl : k = 25 := by omega
  have hsl : (mixA st 25).length = 5 := mixA_len
  rw [show mixS st = mixB (mixA st 25) st 25 from rfl]
  generalize mixA st 25 = su at hsl ⊢
  refine go_Kc ?_
  refine sc_for (fun k : Nat => [(0, .pointer (some ⟨g, 0, none⟩)), (2, .pointer (some ⟨gs, 0, none⟩)), (21, .int .i64 k)]) (fun k => blk gs 325 (us su) :: blk g t (us (mixB su st k) ++ tl) :: K) (fun k => k ≤ 25) (fun k => 25 - k) 0 (by exact has_) (by exact sub_) (by omega) ?_
  intro k hk
  by_cases hlt : k < 25
  · refine go_Kc ?_
    refine sd_drawn (fun W => AllP W [blk gs 325 (us su), blk g t (us (mixB su st k) ++ tl)]) (fun i => !(List.contains [20] i)) (by kernel_rfl) 21 rfl ?_
    refine sd_yes2 0 rfl (by exact gd_) (by kernel_rfl) (by kernel_rfl) (by exact nop_) (PuI.all (by exact pv_Kc)) rfl (fun w hw => all_ hw) ?_
    refine sd_yes2 1 rfl (by exact gd_) (by kernel_rfl) (by kernel_rfl) (by exact nop_) (PuI.all (by exact pv_Kc)) rfl (fun w hw => all_ hw) ?_
    refine sd_yes2 2 rfl (by exact gd_) (by kernel_rfl) (by kernel_rfl) (by exact nop_) (PuI.all (by exact pv_Kc)) rfl (fun w hw => all_ hw) ?_
    refine sd_yes2 3 rfl (by exact gd_) (by kernel_rfl) (by kernel_rfl) (by exact nop_) (PuI.all (by exact pv_Kc)) rfl (fun w hw => all_ hw) ?_
    refine sd_yes2 4 rfl (by exact gd_) (by kernel_rfl) (by kernel_rfl) (by exact nop_) (PuI.all (by exact pv_Kc)) rfl (fun w hw => all_ hw) ?_
    refine sd_yes2 5 rfl (by exact gd_) (by kernel_rfl) (by kernel_rfl) (by exact nop_) (PuI.all (by exact pv_Kc)) rfl (fun w hw => all_ hw) ?_
    refine sd_yes2 6 rfl (by exact gd_) (by kernel_rfl) (by kernel_rfl) (by exact nop_) (PuI.all (by exact pv_Kc)) rfl (fun w hw => all_ hw) ?_
    refine sd_yes2 7 rfl (by exact gd_) (by kernel_rfl) (by kernel_rfl) (by exact nop_) (PuI.all (by exact pv_Kc)) rfl (fun w hw => all_ hw) ?_
    refine sd_yes2 8 rfl (by exact gd_) (by kernel_rfl) (by kernel_rfl) (by exact nop_) (PuI.all (by exact pv_Kc)) rfl (fun w hw => all_ hw) ?_
    refine sd_yes2 9 rfl (by exact gd_) (by kernel_rfl) (by kernel_rfl) (by exact nop_) (PuI.all (by exact pv_Kc)) rfl (fun w hw => all_ hw) ?_
    refine sd_yes2 10 rfl (by exact gd_) (by kernel_rfl) (by kernel_rfl) (by exact nop_) (PuI.all (by exact pv_Kc)) rfl (fun w hw => all_ hw) ?_
    refine sd_yes2 11 rfl (by exact gd_) (by kernel_rfl) (by kernel_rfl) (by exact nop_) (PuI.all (by exact pv_Kc)) rfl (fun w hw => all_ hw) ?_
    refine sd_yes2 12 rfl (by exact gd_) (by kernel_rfl) (by kernel_rfl) (by exact nop_) (PuI.all (by exact pv_Kc)) rfl (fun w hw => all_ hw) ?_
    refine sd_yes2 13 rfl (by exact gd_) (by kernel_rfl) (by kernel_rfl) (by exact nop_) (PuI.all (by exact pv_Kc)) rfl (fun w hw => all_ hw) ?_
    refine sd_yes2 14 rfl (by exact gd_) (by kernel_rfl) (by kernel_rfl) (by exact nop_) (PuI.all (by exact pv_Kc)) rfl (fun w hw => all_ hw) ?_
    refine sd_yes2 18 rfl (by exact gd_) (by kernel_rfl) (by kernel_rfl) (by exact nop_) (PuI.all (by exact pv_Kc)) rfl (fun w hw => all_ hw) ?_
    refine sd_one 15 (by kernel_rfl) (sa_sl 15 rfl ?_)
    refine sl_call rfl rfl (by kernel_rfl) rfl Sub.refl (rotl_ok (by omega) (by omega)) ?_
    rintro _ -
    refine sl_nil ?_
    refine se_sd (fun _ w hw => all_ hw) ?_
    refine sd_yes2 16 rfl (by exact gd_) (by kernel_rfl) (by kernel_rfl) (by exact nop_) (PuI.all (by exact pv_Kc)) rfl (fun w hw => all_ hw) ?_
    refine sd_yes2 17 rfl (by exact gd_) (by kernel_rfl) (by kernel_rfl) (by exact nop_) (PuI.all (by exact pv_Kc)) rfl (fun w hw => all_ hw) ?_
    refine sd_yes2 19 rfl (by exact gd_) (by kernel_rfl) (by kernel_rfl) (by exact nop_) (PuI.all (by exact pv_Kc)) rfl (fun w hw => all_ hw) ?_
    refine sd_one 20 (by kernel_rfl) (sa_sl 20 rfl ?_)
    refine sto_Kc ?_
    refine sl_nil ?_
    refine se_sd (fun h => absurd h (by decide)) ?_
    refine sd_done (by kernel_rfl) ?_
    refine go_Kc ?_
    exact se_round (k + 1) (by exact has_) (by exact sub_) hlt (by omega)
  obtain rfl : k = 25 := by omega
  refine go_Kc ?_
  exact se_end0 () trivial rfl rfl (by exact sub_)
theorem build_turns (W : World) : (Instr.build 327 #[(0, .int .i64 0), (1, .int .i64 1), (2, .int .i64 62), (3, .int .i64 28), (4, .int .i64 27), (5, .int .i64 36), (6, .int .i64 44), (7, .int .i64 6), (8, .int .i64 55), (9, .int .i64 20), (10, .int .i64 3), (11, .int .i64 10), (12, .int .i64 43), (13, .int .i64 25), (14, .int .i64 39), (15, .int .i64 41), (16, .int .i64 45), (17, .int .i64 15), (18, .int .i64 21), (19, .int .i64 8), (20, .int .i64 18), (21, .int .i64 2), (22, .int .i64 61), (23, .int .i64 56), (24, .int .i64 14)]).run Tryz.prog W = .ok (.agg (isv tblL).toArray) W := by kernel_rfl
theorem build_consts (W : World) : (Instr.build 306 #[(0, .int .u64 2147516555), (1, .int .u64 9223372036854775947), (2, .int .u64 9223372036854808713), (3, .int .u64 9223372036854808579), (4, .int .u64 9223372036854808578), (5, .int .u64 9223372036854775936), (6, .int .u64 32778), (7, .int .u64 9223372039002259466), (8, .int .u64 9223372039002292353), (9, .int .u64 9223372036854808704), (10, .int .u64 2147483649), (11, .int .u64 9223372039002292232)]).run Tryz.prog W = .ok (.agg (us conL).toArray) W := by kernel_rfl
theorem isv_len {st : List Int} : (isv st).length = st.length := by simp [isv]
theorem isv_one {st : List Int} : ∀ v ∈ isv st, v.oneCell' = true := by
  intro v hv
  obtain ⟨x, _, rfl⟩ := List.mem_map.1 hv
  rfl
set_option maxRecDepth 100000 in
set_option maxHeartbeats 4000000 in
theorem turns_ok {K : List Fa} : Fn Tryz.prog 231 #[] K (Ret (fun _ : Unit => True) (fun _ => .agg (isv tblL).toArray) (fun _ => K)) := by
  refine fn_enter Tryz.func231 rfl _ Tryz.ntmps231 (by simp) [] (args_of (by simp)) ?_
  refine go_Kc ?_
  refine sl_alloc rfl rfl rfl ?_; intro g0
  refine go_Kc ?_
  refine sl_pu (pu_build (v := .agg (isv tblL).toArray) rfl build_turns) rfl ?_
  refine sl_store_whole (cl := isv tblL) rfl .here rfl rfl rfl isv_one ?_
  refine go_Kc ?_
  exact se_ret_c () trivial rfl rfl (by exact at_) rfl rfl rfl rfl (by exact sub_)
set_option maxRecDepth 100000 in
set_option maxHeartbeats 4000000 in
theorem consts_ok {K : List Fa} : Fn Tryz.prog 206 #[] K (Ret (fun _ : Unit => True) (fun _ => .agg (us conL).toArray) (fun _ => K)) := by
  refine fn_enter Tryz.func206 rfl _ Tryz.ntmps206 (by simp) [] (args_of (by simp)) ?_
  refine go_Kc ?_
  refine sl_alloc rfl rfl rfl ?_; intro g0
  refine go_Kc ?_
  refine sl_pu (pu_build (v := .agg (us conL).toArray) rfl build_consts) rfl ?_
  refine sl_store_whole (cl := us conL) rfl .here rfl rfl rfl us_one ?_
  refine go_Kc ?_
  exact se_ret_c () trivial rfl rfl (by exact at_) rfl rfl rfl rfl (by exact sub_)
attribute [irreducible] tblL conL
set_option maxRecDepth 100000 in
set_option maxHeartbeats 4000000 in
theorem move_ok {K : List Fa} {g : Nat} {t : TypeId} {st : List Int} {tl : List Value} (hl : st.length = 25) :
    Fn Tryz.prog 208 #[.pointer (some ⟨g, 0, none⟩)] (blk g t (us st ++ tl) :: K) (Ret (fun _ : Unit => True) (fun _ => .tuple #[]) (fun _ => blk g t (us (movS st) ++ tl) :: K)) := by
  refine fn_enter Tryz.func208 rfl _ Tryz.ntmps208 (by simp) [(0, .pointer (some ⟨g, 0, none⟩))] (args_of (by simp)) ?_
  refine go_Kc ?_
  refine sl_call rfl rfl (by kernel_rfl) rfl (by exact sub_) turns_ok ?_
  rintro _ -
  refine go_Kc ?_
  refine sl_alloc rfl rfl rfl ?_; intro gb
  refine sl_store_whole (cl := isv tblL) rfl .here rfl (by rw [isv_len, tbl_len]; rfl) (by rw [isv_len, tbl_len]; rfl) isv_one ?_
  refine go_Kc ?_
  refine sl_alloc rfl rfl rfl ?_; intro go
  refine go_Kc ?_
  refine sc_for (fun k : Nat => [(0, .pointer (some ⟨g, 0, none⟩)), (2, .pointer (some ⟨gb, 0, none⟩)), (3, .pointer (some ⟨go, 0, none⟩)), (9, .pointer (some ⟨g, 0, none⟩)), (10, .int .i64 k)]) (fun k => blk go 282 (us (movA st k)) :: blk gb 327 (isv tblL) :: blk g t (us st ++ tl) :: K) (fun k => k ≤ 25) (fun k => 25 - k) 0 (by exact has_) (by exact sub_) (by omega) ?_
  intro k hk
  by_cases hlt : k < 25
  · obtain ⟨hb0, hb1⟩ := tbl_bd k hlt
    refine go_Kc ?_
    ((refine sq_region (by kernel_rfl) (by kernel_rfl) ?_; (repeat refine rq_Kc ?_); refine sq_end ?_))
    refine go_Kc ?_
    refine sl_call rfl rfl (by kernel_rfl) rfl (by exact sub_) (rotl_ok hb0 hb1) ?_
    rintro _ -
    refine go_Kc ?_
    exact se_round (k + 1) (by exact has_) (by exact sub_) hlt (by omega)
  obtain rfl : k = 25 := by omega
  have hsl : (movA st 25).length = 25 := movA_len
  rw [show movS st = movA st 25 from rfl]
  generalize movA st 25 = so at hsl ⊢
  refine go_Kc ?_
  refine sl_store_mid rfl (by exact pick_) rfl (by rw [us_len, hsl]; rfl) (by rw [us_len, List.length_append, us_len]; omega) us_one ?_
  rw [us_put (by rw [hsl, hl])]
  refine go_Kc ?_
  exact se_end0 () trivial rfl rfl (by exact sub_)
set_option maxRecDepth 100000 in
set_option maxHeartbeats 4000000 in
theorem bend_ok {K : List Fa} {g : Nat} {t : TypeId} {st : List Int} {tl : List Value} (hl : st.length = 25) :
    Fn Tryz.prog 209 #[.pointer (some ⟨g, 0, none⟩)] (blk g t (us st ++ tl) :: K) (Ret (fun _ : Unit => True) (fun _ => .tuple #[]) (fun _ => blk g t (us (benS st) ++ tl) :: K)) := by
  refine fn_enter Tryz.func209 rfl _ Tryz.ntmps209 (by simp) [(0, .pointer (some ⟨g, 0, none⟩))] (args_of (by simp)) ?_
  refine go_Kc ?_
  refine sl_alloc rfl rfl rfl ?_; intro go
  refine go_Kc ?_
  refine sc_for (fun k : Nat => [(0, .pointer (some ⟨g, 0, none⟩)), (2, .pointer (some ⟨go, 0, none⟩)), (6, .pointer (some ⟨g, 0, none⟩)), (7, .int .i64 k)]) (fun k => blk go 282 (us (benA st k)) :: blk g t (us st ++ tl) :: K) (fun k => k ≤ 25) (fun k => 25 - k) 0 (by exact has_) (by exact sub_) (by omega) ?_
  intro k hk
  by_cases hlt : k < 25
  · refine go_Kc ?_
    ((refine sq_region (by kernel_rfl) (by kernel_rfl) ?_; (repeat refine rq_Kc ?_); refine sq_end ?_))
    refine go_Kc ?_
    refine sd_drawn (fun W => AllP W [blk g t (us st ++ tl)]) (fun _ => true) (by kernel_rfl) 25 rfl ?_
    refine sd_yes2 0 rfl (by exact gd_) (by kernel_rfl) (by kernel_rfl) (by exact nop_) (PuI.all (by exact pv_Kc)) rfl (fun w hw => all_ hw) ?_
    refine sd_yes2 1 rfl (by exact gd_) (by kernel_rfl) (by kernel_rfl) (by exact nop_) (PuI.all (by exact pv_Kc)) rfl (fun w hw => all_ hw) ?_
    refine sd_yes2 2 rfl (by exact gd_) (by kernel_rfl) (by kernel_rfl) (by exact nop_) (PuI.all (by exact pv_Kc)) rfl (fun w hw => all_ hw) ?_
    refine sd_yes2 3 rfl (by exact gd_) (by kernel_rfl) (by kernel_rfl) (by exact nop_) (PuI.all (by exact pv_Kc)) rfl (fun w hw => all_ hw) ?_
    refine sd_yes2 4 rfl (by exact gd_) (by kernel_rfl) (by kernel_rfl) (by exact nop_) (PuI.all (by exact pv_Kc)) rfl (fun w hw => all_ hw) ?_
    refine sd_yes2 5 rfl (by exact gd_) (by kernel_rfl) (by kernel_rfl) (by exact nop_) (PuI.all (by exact pv_Kc)) rfl (fun w hw => all_ hw) ?_
    refine sd_yes2 6 rfl (by exact gd_) (by kernel_rfl) (by kernel_rfl) (by exact nop_) (PuI.all (by exact pv_Kc)) rfl (fun w hw => all_ hw) ?_
    refine sd_yes2 7 rfl (by exact gd_) (by kernel_rfl) (by kernel_rfl) (by exact nop_) (PuI.all (by exact pv_Kc)) rfl (fun w hw => all_ hw) ?_
    refine sd_yes2 8 rfl (by exact gd_) (by kernel_rfl) (by kernel_rfl) (by exact nop_) (PuI.all (by exact pv_Kc)) rfl (fun w hw => all_ hw) ?_
    refine sd_yes2 9 rfl (by exact gd_) (by kernel_rfl) (by kernel_rfl) (by exact nop_) (PuI.all (by exact pv_Kc)) rfl (fun w hw => all_ hw) ?_
    refine sd_yes2 10 rfl (by exact gd_) (by kernel_rfl) (by kernel_rfl) (by exact nop_) (PuI.all (by exact pv_Kc)) rfl (fun w hw => all_ hw) ?_
    refine sd_yes2 11 rfl (by exact gd_) (by kernel_rfl) (by kernel_rfl) (by exact nop_) (PuI.all (by exact pv_Kc)) rfl (fun w hw => all_ hw) ?_
    refine sd_yes2 12 rfl (by exact gd_) (by kernel_rfl) (by kernel_rfl) (by exact nop_) (PuI.all (by exact pv_Kc)) rfl (fun w hw => all_ hw) ?_
    refine sd_yes2 13 rfl (by exact gd_) (by kernel_rfl) (by kernel_rfl) (by exact nop_) (PuI.all (by exact pv_Kc)) rfl (fun w hw => all_ hw) ?_
    refine sd_yes2 14 rfl (by exact gd_) (by kernel_rfl) (by kernel_rfl) (by exact nop_) (PuI.all (by exact pv_Kc)) rfl (fun w hw => all_ hw) ?_
    refine sd_yes2 15 rfl (by exact gd_) (by kernel_rfl) (by kernel_rfl) (by exact nop_) (PuI.all (by exact pv_Kc)) rfl (fun w hw => all_ hw) ?_
    refine sd_yes2 16 rfl (by exact gd_) (by kernel_rfl) (by kernel_rfl) (by exact nop_) (PuI.all (by exact pv_Kc)) rfl (fun w hw => all_ hw) ?_
    refine sd_yes2 17 rfl (by exact gd_) (by kernel_rfl) (by kernel_rfl) (by exact nop_) (PuI.all (by exact pv_Kc)) rfl (fun w hw => all_ hw) ?_
    refine sd_yes2 18 rfl (by exact gd_) (by kernel_rfl) (by kernel_rfl) (by exact nop_) (PuI.all (by exact pv_Kc)) rfl (fun w hw => all_ hw) ?_
    refine sd_yes2 19 rfl (by exact gd_) (by kernel_rfl) (by kernel_rfl) (by exact nop_) (PuI.all (by exact pv_Kc)) rfl (fun w hw => all_ hw) ?_
    refine sd_yes2 20 rfl (by exact gd_) (by kernel_rfl) (by kernel_rfl) (by exact nop_) (PuI.all (by exact pv_Kc)) rfl (fun w hw => all_ hw) ?_
    refine sd_yes2 21 rfl (by exact gd_) (by kernel_rfl) (by kernel_rfl) (by exact nop_) (PuI.all (by exact pv_Kc)) rfl (fun w hw => all_ hw) ?_
    refine sd_yes2 22 rfl (by exact gd_) (by kernel_rfl) (by kernel_rfl) (by exact nop_) (PuI.all (by exact pv_Kc)) rfl (fun w hw => all_ hw) ?_
    refine sd_yes2 23 rfl (by exact gd_) (by kernel_rfl) (by kernel_rfl) (by exact nop_) (PuI.all (by exact pv_Kc)) rfl (fun w hw => all_ hw) ?_
    refine sd_one 24 (by kernel_rfl) (sa_sl 24 rfl ?_)
    refine sto_Kc ?_
    refine sl_nil ?_
    refine se_sd (fun _ w hw => all_ hw) ?_
    refine sd_done (by kernel_rfl) ?_
    refine go_Kc ?_
    exact se_round (k + 1) (by exact has_) (by exact sub_) hlt (by omega)
  obtain rfl : k = 25 := by omega
  have hsl : (benA st 25).length = 25 := benA_len
  rw [show benS st = benA st 25 from rfl]
  generalize benA st 25 = so at hsl ⊢
  refine go_Kc ?_
  refine sl_store_mid rfl (by exact pick_) rfl (by rw [us_len, hsl]; rfl) (by rw [us_len, List.length_append, us_len]; omega) us_one ?_
  rw [us_put (by rw [hsl, hl])]
  refine go_Kc ?_
  exact se_end0 () trivial rfl rfl (by exact sub_)
theorem mixS_len {st : List Int} (h : st.length = 25) : (mixS st).length = 25 := mixB_len.trans h
theorem movS_len {st : List Int} : (movS st).length = 25 := movA_len
theorem benS_len {st : List Int} : (benS st).length = 25 := benA_len
attribute [irreducible] mixS movS benS
end Go.Proofs.YtocaabnbmcpjmaaGreatDoor
