/- Several texts of one claim, one behind the other. -/
import Derived.Test.YtocaabnbmcpjmaaGreatB09
import Derived.Test.YtocaabnbmcpjmaaGreatB05
import Derived.Test.YtocaabnbmcpjmaaGreatB06
import Derived.Laws.OwnMore
import Derived.Shelf.Small.Bits
set_option linter.unusedVariables false
set_option linter.unusedSimpArgs false
set_option maxRecDepth 100000
set_option maxHeartbeats 16000000
namespace Go.Proofs.YtocaabnbmcpjmaaGreat
variable {φ ψ : Prop}
section
open Go.RowKit
attribute [local irreducible] Go.Calls Go.Exit.then Go.Exit.inBlock Go.bodyPost Go.Code.wp Go.wpList
section
def wP : Int := 340282366920938462946865773367900766209
theorem wP_cells : eC wP = [.int .u64 1, .int .u64 18446744073709551588] := by
 unfold eC wP
 rw [show (340282366920938462946865773367900766209 : Int) % 18446744073709551616 = 1 by decide, show (340282366920938462946865773367900766209 : Int) / 18446744073709551616 = 18446744073709551588 by decide]
theorem wP_El : El wP := by unfold El wP; omega
theorem el_parts {x : Int} (h : El x) : ∃ a b : Int, x = a + 18446744073709551616 * b ∧ x % 18446744073709551616 = a ∧ x / 18446744073709551616 = b ∧ (0 ≤ a ∧ a < 18446744073709551616) ∧ 0 ≤ b ∧ b < 18446744073709551616 := by
 unfold El at h
 exact ⟨x % 18446744073709551616, x / 18446744073709551616, by omega, rfl, rfl, by omega, by omega⟩
theorem agg_eC {x a b : Int} (h0 : x % 18446744073709551616 = a) (h1 : x / 18446744073709551616 = b) : eC x = [.int .u64 a, .int .u64 b] := by
 unfold eC
 rw [h0, h1]
theorem u2_one (a b : Int) : ∀ u ∈ [Value.int .u64 a, .int .u64 b], u.oneCell' = true := by
 intro u hu
 simp only [List.mem_cons, List.not_mem_nil, or_false] at hu
 rcases hu with rfl | rfl <;> rfl
namespace pGb
theorem onex_ (h : φ := by first | exact u2_one _ _ | exact one_bytes _) : φ := h
end pGb
open pGb
theorem wP_ok {K : List Fa} : Fn Tryz.prog 137 #[] K (Ret (fun _ : Unit => True) (fun _ => .agg (eC wP).toArray) (fun _ => K)) := by
 rw [wP_cells]; refine fe_ Tryz.func137 Tryz.ntmps137 [] ?_; refine go_ ?_; refine al_ ?_; intro g1; refine go_ ?_; refine sl_pu (pu_build (v := .agg #[.int .u64 1, .int .u64 18446744073709551588]) rfl (fun W => by kernel_rfl)) rfl ?_; refine go_ ?_; exact se_ret_c () trivial rfl rfl at_ rfl rfl rfl rfl sub_
theorem e1_Gb (h : φ := by (refine go_ ?_; refine bx_ ?_; intro g1; refine go_ ?_; refine bx_ ?_; intro g2; refine go_ ?_; exact r1_ ())) : φ := h
theorem wLess_ok {K : List Fa} {x y : Int} (hx : El x) (hy : El y) : Fn Tryz.prog 136 #[.agg (eC x).toArray, .agg (eC y).toArray] K (Ret (fun _ : Unit => True) (fun _ => .bool (decide (x < y))) (fun _ => K)) := by
 refine fe_ Tryz.func136 Tryz.ntmps136 [(0, .agg (eC x).toArray), (1, .agg (eC y).toArray)] ?_
 obtain ⟨a, b, hxx, h1, h2, ha, hb⟩ := el_parts hx
 obtain ⟨c, d, hyy, h3, h4, hc, hd⟩ := el_parts hy
 rw [agg_eC h1 h2, agg_eC h3 h4]
 by_cases e1 : b < d
 ·rw [decide_eq_true (by omega)]; exact e1_Gb
 by_cases e2 : b = d
 ·by_cases e3 : a < c
  ·rw [decide_eq_true (by omega)]; exact e1_Gb
  ·rw [decide_eq_false (by omega)]; exact e1_Gb
 ·rw [decide_eq_false (by omega)]; exact e1_Gb
theorem wIn_ok {K : List Fa} {x : Int} (hx : El x) : Fn Tryz.prog 105 #[.agg (eC x).toArray] K (Ret (fun _ : Unit => True) (fun _ => .bool (decide (x < wP))) (fun _ => K)) := by
 refine fe_ Tryz.func105 Tryz.ntmps105 [(0, .agg (eC x).toArray)] ?_; refine go_ ?_; refine bx_ ?_; intro g1; refine go_ ?_; refine dr_ [blk g1 102 (eC x)] 4 ?_; refine wy_ 0 ?_; refine w1_ 1 ?_; refine slc_ rfl rfl sub_ wP_ok ?_; rintro _ -; refine v1_ 2 ?_; refine slc_ rfl rfl sub_ (wLess_ok hx wP_El) ?_; rintro _ -; refine vy_ 3 ?_; refine wx_ ?_; refine go_ ?_; exact r1_ ()
theorem take_eq {a b c d : Int} (ha : 0 ≤ a ∧ a < 18446744073709551616) (hb : 0 ≤ b ∧ b < 18446744073709551616) (hc : 0 ≤ c ∧ c < 18446744073709551616) (hd : 0 ≤ d ∧ d < 18446744073709551616) :
  [Value.int .u64 ((a - c - 0) % 18446744073709551616), .int .u64 ((b - d - (if a < c + 0 then 1 else 0)) % 18446744073709551616)] = eC ((a + 18446744073709551616 * b - (c + 18446744073709551616 * d)) % 340282366920938463463374607431768211456) := by
 unfold eC
 have e1 : (a + 18446744073709551616 * b - (c + 18446744073709551616 * d)) % 340282366920938463463374607431768211456 % 18446744073709551616 = (a - c - 0) % 18446744073709551616 := by omega
 have e2 : (a + 18446744073709551616 * b - (c + 18446744073709551616 * d)) % 340282366920938463463374607431768211456 / 18446744073709551616 = (b - d - (if a < c + 0 then 1 else 0)) % 18446744073709551616 := by
  split <;> omega
 rw [e1, e2]
theorem ite_01 {p : Prop} [Decidable p] : 0 ≤ (if p then (1 : Int) else 0) ∧ (if p then (1 : Int) else 0) ≤ 1 := by split <;> omega
theorem wTake_ok {K : List Fa} {x y : Int} (hx : El x) (hy : El y) : Fn Tryz.prog 201 #[.agg (eC x).toArray, .agg (eC y).toArray] K (Ret (fun _ : Unit => True) (fun _ => .agg (eC ((x - y) % 340282366920938463463374607431768211456)).toArray) (fun _ => K)) := by
 refine fe_ Tryz.func201 Tryz.ntmps201 [(0, .agg (eC x).toArray), (1, .agg (eC y).toArray)] ?_
 obtain ⟨a, b, hxx, h1, h2, ha, hb⟩ := el_parts hx
 obtain ⟨c, d, hyy, h3, h4, hc, hd⟩ := el_parts hy
 rw [agg_eC h1 h2, agg_eC h3 h4, hxx, hyy, ← take_eq ha hb hc hd]
 have hq := ite_01 (p := a < c + 0)
 refine go_ ?_; refine bx_ ?_; intro g1; refine go_ ?_; refine bx_ ?_; intro g2; refine go_ ?_; refine al_ ?_; intro g3; refine go_ ?_; refine sl_pu (pu_ext (cap := []) rfl rfl (fun W _ => run_s64 ha.1 hc (by decide) W)) rfl ?_
 generalize (if a < c + 0 then (1 : Int) else 0) = q at hq ⊢
 refine go_ ?_; refine sl_pu (pu_ext (cap := []) rfl rfl (fun W _ => run_s64 hb.1 hd hq W)) rfl ?_
 generalize (if b < d + q then (1 : Int) else 0) = r
 refine go_ ?_; refine sl_pu (pu_build (v := .agg #[.int .u64 ((a - c - 0) % 18446744073709551616), .int .u64 ((b - d - q) % 18446744073709551616)]) rfl (fun W => by kernel_rfl)) rfl ?_; refine go_ ?_; exact se_ret_c () trivial rfl rfl at_ rfl rfl rfl rfl sub_
theorem El.mod {x : Int} : El (x % 340282366920938463463374607431768211456) := by unfold El; omega
theorem El.modP {x : Int} : El (x % wP) := by unfold El wP; omega
theorem wOf_ok {K : List Fa} {x : Int} (hx : El x) : Fn Tryz.prog 162 #[.agg (eC x).toArray] K (Ret (fun _ : Unit => True) (fun _ => .agg (eC (x % wP)).toArray) (fun _ => K)) := by
 refine fe_ Tryz.func162 Tryz.ntmps162 [(0, .agg (eC x).toArray)] ?_; refine go_ ?_; refine bx_ ?_; intro g1; refine go_ ?_; refine al_ ?_; intro g2; refine go_ ?_; refine slc_ rfl rfl sub_ (wIn_ok hx) ?_; rintro _ -
 by_cases h : x < wP
 ·rw [decide_eq_true h, show x % wP = x by unfold El wP at *; omega]; refine go_ ?_; exact se_ret_c () trivial rfl rfl at_ rfl rfl rfl rfl sub_
 ·rw [decide_eq_false h, show x % wP = (x - wP) % 340282366920938463463374607431768211456 by unfold El wP at *; omega]; refine go_ ?_; refine sd_drawn (fun W => AllP W [blk g1 102 (eC x)]) (fun i => !(List.contains [3] i)) (by kernel_rfl) 4 rfl ?_; refine wy_ 0 ?_; refine w1_ 1 ?_; refine slc_ rfl rfl sub_ wP_ok ?_; rintro _ -; refine v1_ 2 ?_; refine slc_ rfl rfl sub_ (wTake_ok hx wP_El) ?_; rintro _ -; refine v1_ 3 ?_; refine sl_store_whole rfl pick_ rfl (by rfl) (by rfl) (eC_one _) ?_; refine sl_nil ?_; refine se_sd (fun h => absurd h (by decide)) ?_; refine wx_ ?_; refine go_ ?_; exact se_ret_c () trivial rfl rfl at_ rfl rfl rfl rfl sub_
end
section
theorem wsum_eq {a b c d : Int} (ha : 0 ≤ a ∧ a < 18446744073709551616) (hb : 0 ≤ b ∧ b < 18446744073709551616) (hc : 0 ≤ c ∧ c < 18446744073709551616) (hd : 0 ≤ d ∧ d < 18446744073709551616) :
  [Value.int .u64 ((a + c + 0) % 18446744073709551616), .int .u64 ((b + d + (a + c + 0) / 18446744073709551616) % 18446744073709551616)] = eC ((a + 18446744073709551616 * b + (c + 18446744073709551616 * d)) % 340282366920938463463374607431768211456) := by
 unfold eC
 have e1 : (a + 18446744073709551616 * b + (c + 18446744073709551616 * d)) % 340282366920938463463374607431768211456 % 18446744073709551616 = (a + c + 0) % 18446744073709551616 := by omega
 have e2 : (a + 18446744073709551616 * b + (c + 18446744073709551616 * d)) % 340282366920938463463374607431768211456 / 18446744073709551616 = (b + d + (a + c + 0) / 18446744073709551616) % 18446744073709551616 := by omega
 rw [e1, e2]
theorem wover_eq {a b c d : Int} (ha : 0 ≤ a ∧ a < 18446744073709551616) (hb : 0 ≤ b ∧ b < 18446744073709551616) (hc : 0 ≤ c ∧ c < 18446744073709551616) (hd : 0 ≤ d ∧ d < 18446744073709551616) :
  (b + d + (a + c + 0) / 18446744073709551616) / 18446744073709551616 = (a + 18446744073709551616 * b + (c + 18446744073709551616 * d)) / 340282366920938463463374607431768211456 := by omega
theorem car_01 {a c : Int} (ha : 0 ≤ a ∧ a < 18446744073709551616) (hc : 0 ≤ c ∧ c < 18446744073709551616) : 0 ≤ (a + c + 0) / 18446744073709551616 ∧ (a + c + 0) / 18446744073709551616 ≤ 1 := by omega
open pGb
theorem o1_Gc (k : ψ) (h : Hide ψ → φ := by (intro k; refine sl_store_whole rfl pick_ rfl (by rfl) (by rfl) (eC_one _) ?_; exact k.out)) : φ := h ⟨k⟩
theorem wAdd_ok {K : List Fa} {x y : Int} (hx : El x) (hy : El y) : Fn Tryz.prog 186 #[.agg (eC x).toArray, .agg (eC y).toArray] K (Ret (fun _ : Unit => True) (fun _ => .agg (eC ((x + y) % wP)).toArray) (fun _ => K)) := by
 refine fe_ Tryz.func186 Tryz.ntmps186 [(0, .agg (eC x).toArray), (1, .agg (eC y).toArray)] ?_; refine go_ ?_; refine bx_ ?_; intro g1; refine go_ ?_; refine bx_ ?_; intro g2; refine go_ ?_; refine al_ ?_; intro g3; refine go_ ?_; refine sd_drawn (fun W => AllP W [blk g1 102 (eC x), blk g2 102 (eC y)]) (fun i => !(List.contains [4, 5] i)) (by kernel_rfl) 6 rfl ?_; refine y2_ 0 2 ?_; refine w1_ 1 ?_; refine slc_ rfl rfl sub_ (wOf_ok hx) ?_; rintro _ -; refine v1_ 3 ?_; refine slc_ rfl rfl sub_ (wOf_ok hy) ?_; rintro _ -; refine v1_ 4 ?_; refine o1_Gc ?_; refine sl_nil ?_; refine se_sd (fun h => absurd h (by decide)) ?_; refine w1_ 5 ?_; refine o1_Gc ?_; refine sl_nil ?_; refine se_sd (fun h => absurd h (by decide)) ?_; refine wx_ ?_
 have hs : (x + y) % wP = (x % wP + y % wP) % wP := by rw [Int.add_emod]
 have hsx : 0 ≤ x % wP ∧ x % wP < wP := by unfold wP; omega
 have hsy : 0 ≤ y % wP ∧ y % wP < wP := by unfold wP; omega
 obtain ⟨a, b, hxx, h1, h2, ha, hb⟩ := el_parts (El.modP (x := x))
 obtain ⟨c, d, hyy, h3, h4, hc, hd⟩ := el_parts (El.modP (x := y))
 rw [agg_eC h1 h2, agg_eC h3 h4, hs]
 generalize x % wP = X at *
 generalize y % wP = Y at *
 refine go_ ?_; refine sl_pu (pu_ext (cap := []) rfl rfl (fun W _ => run_a64 ha.1 hc.1 (by decide) W)) rfl ?_; refine go_ ?_; refine sl_pu (pu_ext (cap := []) rfl rfl (fun W _ => run_a64 hb.1 hd.1 (car_01 ha hc) W)) rfl ?_; rw [wover_eq ha hb hc hd, ← hxx, ← hyy]
 have hse := wsum_eq ha hb hc hd
 rw [← hxx, ← hyy] at hse
 refine go_ ?_; refine sl_pu (pu_build (v := .agg #[.int .u64 ((a + c + 0) % 18446744073709551616), .int .u64 ((b + d + (a + c + 0) / 18446744073709551616) % 18446744073709551616)]) rfl (fun W => by kernel_rfl)) rfl ?_; rw [show (#[.int .u64 ((a + c + 0) % 18446744073709551616), .int .u64 ((b + d + (a + c + 0) / 18446744073709551616) % 18446744073709551616)] : Array Value) = (eC ((X + Y) % 340282366920938463463374607431768211456)).toArray from congrArg List.toArray hse]; refine al_ ?_; intro g4; refine o1_Gc ?_
 generalize (a + c + 0) % 18446744073709551616 = lo
 generalize (b + d + (a + c + 0) / 18446744073709551616) % 18446744073709551616 = hi
 generalize (a + c + 0) / 18446744073709551616 = ca
 clear hse hxx hyy h1 h2 h3 h4
 unfold wP at hsx hsy
 by_cases q1 : 340282366920938463463374607431768211456 ≤ X + Y
 ·rw [show (X + Y) / 340282366920938463463374607431768211456 = 1 by omega, show (X + Y) % wP = ((X + Y) % 340282366920938463463374607431768211456 - wP) % 340282366920938463463374607431768211456 by unfold wP; omega]; refine go_ ?_; refine sd_drawn (fun W => AllP W [blk g4 102 (eC ((X + Y) % 340282366920938463463374607431768211456))]) (fun i => !(List.contains [3] i)) (by kernel_rfl) 4 rfl ?_; refine wy_ 0 ?_; refine w1_ 1 ?_; refine slc_ rfl rfl sub_ wP_ok ?_; rintro _ -; refine v1_ 2 ?_; refine slc_ rfl rfl sub_ (wTake_ok El.mod wP_El) ?_; rintro _ -; refine v1_ 3 ?_; refine o1_Gc ?_; refine sl_nil ?_; refine se_sd (fun h => absurd h (by decide)) ?_; refine wx_ ?_; refine go_ ?_; exact se_ret_c () trivial rfl rfl at_ rfl rfl rfl rfl sub_
 rw [show (X + Y) / 340282366920938463463374607431768211456 = 0 by omega]
 by_cases q2 : X + Y < wP
 ·have q3 : (X + Y) % 340282366920938463463374607431768211456 = X + Y := by omega
  rw [q3, show (X + Y) % wP = X + Y by unfold wP at *; omega]; refine go_ ?_; refine slc_ rfl rfl sub_ (wIn_ok (x := X + Y) (by unfold El; omega)) ?_; rintro _ -; rw [decide_eq_true q2]; refine go_ ?_; exact se_ret_c () trivial rfl rfl at_ rfl rfl rfl rfl sub_
 ·have q3 : (X + Y) % 340282366920938463463374607431768211456 = X + Y := by omega
  rw [q3, show (X + Y) % wP = (X + Y - wP) % 340282366920938463463374607431768211456 by unfold wP at *; omega]
  have q4 : El (X + Y) := by unfold El; omega
  refine go_ ?_; refine slc_ rfl rfl sub_ (wIn_ok q4) ?_; rintro _ -; rw [decide_eq_false q2]; refine go_ ?_; refine sd_drawn (fun W => AllP W [blk g4 102 (eC (X + Y))]) (fun i => !(List.contains [3] i)) (by kernel_rfl) 4 rfl ?_; refine wy_ 0 ?_; refine w1_ 1 ?_; refine slc_ rfl rfl sub_ wP_ok ?_; rintro _ -; refine v1_ 2 ?_; refine slc_ rfl rfl sub_ (wTake_ok q4 wP_El) ?_; rintro _ -; refine v1_ 3 ?_; refine o1_Gc ?_; refine sl_nil ?_; refine se_sd (fun h => absurd h (by decide)) ?_; refine wx_ ?_; refine go_ ?_; exact se_ret_c () trivial rfl rfl at_ rfl rfl rfl rfl sub_
def fAdd (f x y : Int) : Int := if f = 1 then (x % 18446744073709551616 + y % 18446744073709551616) % 18446744069414584321 else if f = 2 then (x + y) % wP else 0
theorem fAdd_El (f x y : Int) : El (fAdd f x y) := by
 unfold fAdd El wP
 split
 ·omega
 split <;> omega
theorem eC_small {x : Int} (h : 0 ≤ x ∧ x < 18446744073709551616) : eC x = [.int .u64 x, .int .u64 0] := by
 unfold eC
 rw [show x % 18446744073709551616 = x by omega, show x / 18446744073709551616 = 0 by omega]
theorem fAdd_ok {K : List Fa} {f x y : Int} (hx : El x) (hy : El y) : Fn Tryz.prog 148 #[.int .u8 f, .agg (eC x).toArray, .agg (eC y).toArray] K (Ret (fun _ : Unit => True) (fun _ => .agg (eC (fAdd f x y)).toArray) (fun _ => K)) := by
 refine fe_ Tryz.func148 Tryz.ntmps148 [(0, .int .u8 f), (1, .agg (eC x).toArray), (2, .agg (eC y).toArray)] ?_; refine go_ ?_; refine bx_ ?_; intro g1; refine go_ ?_; refine bx_ ?_; intro g2; refine go_ ?_; refine al_ ?_; intro g3
 by_cases h1 : f = 1
 ·subst h1
  have hr : 0 ≤ fAdd 1 x y ∧ fAdd 1 x y < 18446744073709551616 := by
   have : fAdd 1 x y = (x % 18446744073709551616 + y % 18446744073709551616) % 18446744069414584321 := by simp [fAdd]
   omega
  rw [eC_small hr, show fAdd 1 x y = (x % 18446744073709551616 + y % 18446744073709551616) % 18446744069414584321 by simp [fAdd]]
  obtain ⟨a, b, hxx, h1, h2, ha, hb⟩ := el_parts hx
  obtain ⟨c, d, hyy, h3, h4, hc, hd⟩ := el_parts hy
  rw [agg_eC h1 h2, agg_eC h3 h4, h1, h3]; refine go_ ?_; refine slc_ rfl rfl sub_ (gAdd_ok ha hc) ?_; rintro _ -; refine sl_pu (pu_build (v := .agg #[.int .u64 ((a + c) % 18446744069414584321), .int .u64 0]) rfl (fun W => by kernel_rfl)) rfl ?_; refine go_ ?_; exact se_ret_c () trivial rfl rfl at_ rfl rfl rfl rfl sub_
 by_cases h2 : f = 2
 ·subst h2; rw [show fAdd 2 x y = (x + y) % wP by simp [fAdd]]; refine go_ ?_; refine slc_ rfl rfl sub_ (wAdd_ok hx hy) ?_; rintro _ -; refine sl_store_whole rfl pick_ rfl (by rfl) (by rfl) (eC_one _) ?_; refine go_ ?_; exact se_ret_c () trivial rfl rfl at_ rfl rfl rfl rfl sub_
 ·rw [show fAdd f x y = 0 by simp [fAdd, h1, h2], show eC 0 = [.int .u64 0, .int .u64 0] from rfl]; refine go_ ?_; refine sl_pu (pu_build (v := .agg #[.int .u64 0, .int .u64 0]) rfl (fun W => by kernel_rfl)) rfl ?_; refine go_ ?_; exact se_ret_c () trivial rfl rfl at_ rfl rfl rfl rfl sub_
end
end
section
open Go.RowKit
section
variable {P : Program} {ops : Array Oper} {Q : Exit → Act → World → Prop} {n : Nat} {l : Env} {L L1 : List Fa} {rest : List Oper} {d : Tmp} {ty : TypeId} {pos : String} {after : Array Edge} {x : Operand} {f : FuncId} {fst cap vs : List Value} {zs : List Operand} {ats : Array TypeId} {α : Type} {φ : α → Prop} {vv : α → Value} {H : α → List Fa} {C : World → Prop} {g : Option (Nat × Bool)} {dst : Option Tmp}
theorem pu_mkf {fs xs : List Operand} (hf : evs l fs = some fst) (hv : evs l xs = some cap) : Pu P C n l (.makeFunc (.func f) fs.toArray xs.toArray) ty (.func (.func f) fst.toArray cap.toArray) := by
 unfold Pu
 intro a _ _ _ _ W hs _
 have h1 : xs.toArray.map a.eval = cap.toArray := by rw [List.map_toArray, hs.evs hv]
 have h2 : fs.toArray.map a.eval = fst.toArray := by rw [List.map_toArray, hs.evs hf]
 simp only [execOp, h1, h2]
 simp [Instr.makeFunc]
theorem run_callm {a : Act} (hs : Sl n l a) (hx : ev l x = some (.func (.func f) fst.toArray cap.toArray)) (hv : evs l zs = some vs) (hf : callable P f = true) (W : World) :
  (execOp a.eval ⟨dst, .call { callee := .value x, args := zs.toArray, argTypes := ats }, ty, pos, after, g⟩).run P W = .ok (.enter f (fst ++ vs ++ cap).toArray) W := by
 unfold callable at hf
 cases hfn : P.funcs[f]? with
 | none => rw [hfn] at hf; cases hf
 | some fn =>
  rw [hfn] at hf
  simp only [Bool.and_eq_true, bne_iff_ne] at hf
  obtain ⟨h1, h2⟩ := hf
  have hmap : zs.toArray.map a.eval = vs.toArray := by rw [List.map_toArray, hs.evs hv]
  simp [execOp, resolve, hs.ev hx, Deferred.ofValue, hmap, invoke, callFunc, hfn, h2, Option.isNone_iff_eq_none, Option.isSome_iff_ne_none.1 h1]
theorem sl_callm (hx : ev l x = some (.func (.func f) fst.toArray cap.toArray)) (hv : evs l zs = some vs) (hf : callable P f = true) (hd : Nat.blt d n = true) (hs : Sub L L1) (hc : Fn P f (fst ++ vs ++ cap).toArray L1 (Ret φ vv H))
  (h : ∀ a, φ a → SL P ops Q rest n ((d, vv a) :: l) (H a)) : SL P ops Q (⟨some d, .call { callee := .value x, args := zs.toArray, argTypes := ats }, ty, pos, after, none⟩ :: rest) n l L := sl_of fun w hw => WL.mk fun a hsl => by
 refine wpList_plain rfl fun K hK => ?_
 unfold Oper.wp
 rw [run_callm hsl hx hv hf w, Oper.upon_enter]
 unfold Fn at hc
 refine (hc w (hw.sub hs)).mono fun e w' ⟨q, h1, h2, h3⟩ => ?_; subst h2
 exact hK _ _ ((h q h1).to h3 |>.get (hsl.put hd _))
end
theorem made_all (a : Value) (k : Nat) : ∀ (m : Nat), (madeCells (Array.replicate (k + 1) a) m).toList = List.replicate m a := by
 intro m
 apply List.ext_getElem
 ·simp [size_madeCells]
 ·intro i h1 h2
  have hk : i % (k + 1) < k + 1 := Nat.mod_lt _ (Nat.succ_pos _)
  simp only [madeCells, Array.toList_map, Array.toList_range, List.getElem_map, List.getElem_range, List.getElem_replicate, Array.size_replicate]
  rw [getElem!_pos _ _ (by simpa using hk), Array.getElem_replicate]
theorem rows_rep {C : Int → List Value} {a : Value} {sz : Nat} (h : C 0 = List.replicate sz a) : ∀ m, rows C (List.replicate m 0) = List.replicate (m * sz) a
 | 0 => by rw [Nat.zero_mul]; rfl
 | m + 1 => by rw [List.replicate_succ, rows_cons, rows_rep h m, h, List.replicate_append_replicate, Nat.succ_mul, Nat.add_comm]
theorem made_rows {C : Int → List Value} {a : Value} {k n : Nat} (h : C 0 = List.replicate (k + 1) a) : ((madeCells (Array.replicate (k + 1) a) (n * (k + 1))).toList.take (n * (k + 1))) = rows C (List.replicate n 0) := by
 rw [made_all, rows_rep h, List.take_of_length_le (by simp)]
theorem pu_sepK {P : Program} {K L0 : List Fa} {n : Nat} {l : Env} {op : Op} {ty : TypeId} {v : Value} (h : Pu P (In K) n l op ty v) : Pu P (S2 K L0) n l op ty v := by
 unfold Pu at h ⊢
 exact fun a b c d e W hs hW => h a b c d e W hs hW.1
attribute [local irreducible] Go.Calls Go.Exit.then Go.Exit.inBlock Go.bodyPost Go.Code.wp Go.wpList
section
abbrev eo (A : Option Addr) (n c : Nat) (xs : List Int) : Fa := own 102 2 A n c (rows eC xs)
def Els (xs : List Int) : Prop := ∀ x ∈ xs, El x
theorem vwe_len {K : List Fa} {A : Option Addr} {n : Nat} {xs : List Int} (hr : Vw K (fun w => Reads w 2 A n (rows eC xs))) : ∀ w, Sep w K → xs.length = n := fun w hw => by
 have := (hr w hw).1
 rw [rows_len eC_len] at this
 omega
def fillz (zs : List Int) (j : Nat) : List Int := zs.take j ++ List.replicate (zs.length - j) 0
theorem fillz_len (zs : List Int) {j : Nat} (h : j ≤ zs.length) : (fillz zs j).length = zs.length := by simp [fillz]; omega
theorem fillz_all (zs : List Int) : fillz zs zs.length = zs := by simp [fillz]
theorem fillz_zero (zs : List Int) : fillz zs 0 = List.replicate zs.length 0 := by simp [fillz]
theorem fillz_set {zs : List Int} {j : Nat} (h : j < zs.length) : (fillz zs j).set j zs[j] = fillz zs (j + 1) := by
 unfold fillz
 rw [List.set_append_right _ _ (by simp; omega), List.length_take, Nat.min_eq_left (by omega), Nat.sub_self, show zs.length - j = (zs.length - (j + 1)) + 1 by omega, List.replicate_succ, List.set_cons_zero, List.take_succ_eq_append_getElem h, List.append_assoc]
 rfl
def zipE (op : Int → Int → Int) (xs ys : List Int) : List Int := List.zipWith op xs ys
theorem zipE_len {op : Int → Int → Int} {xs ys : List Int} {n : Nat} (hx : xs.length = n) (hy : ys.length = n) : (zipE op xs ys).length = n := by simp [zipE, hx, hy]
theorem zipE_at {op : Int → Int → Int} {xs ys : List Int} {j : Nat} (hx : j < xs.length) (hy : j < ys.length) (h : j < (zipE op xs ys).length) : (zipE op xs ys)[j] = op xs[j] ys[j] := by simp [zipE]
theorem zipE_els {op : Int → Int → Int} {xs ys : List Int} (h : ∀ x y, El (op x y)) : Els (zipE op xs ys) := fun z hz => by
 obtain ⟨i, hi, rfl⟩ := List.getElem_of_mem hz
 simp only [zipE, List.getElem_zipWith]
 exact h _ _
theorem els_at {xs : List Int} (h : Els xs) {j : Nat} (hj : j < xs.length) : El xs[j] := h _ (List.getElem_mem hj)
theorem infoE : (Tryz.prog.info? 102).map (fun i => (i.zero, i.size, i.bytes)) = some (some (.agg #[.int .u64 0, .int .u64 0]), 2, 16) := by kernel_rfl
open pGb
theorem pair_ok {K : List Fa} {A B : Option Addr} {n ca cb : Nat} {xs ys : List Int} {F : FuncId} {fst : List Value} {op : Int → Int → Int} (hf : callable Tryz.prog F = true)
  (hop : ∀ {K' : List Fa} {x y : Int}, El x → El y → Fn Tryz.prog F (fst ++ [Value.agg (eC x).toArray, .agg (eC y).toArray] ++ []).toArray K' (Ret (fun _ : Unit => True) (fun _ => .agg (eC (op x y)).toArray) (fun _ => K')))
  (hx : Vw K (fun w => Reads w 2 A n (rows eC xs))) (hy : Vw K (fun w => Reads w 2 B n (rows eC ys))) (ex : Els xs) (ey : Els ys) (hn : n ≤ 1000000) :
  Fn Tryz.prog 147 #[.slice A n ca, .slice B n cb, .func (.func F) fst.toArray #[]] K (Ret (fun _ : Nat => True) (fun g => .tuple #[.slice (some ⟨g, 0, none⟩) n n, .int .i64 0]) (fun g => eo (some ⟨g, 0, none⟩) n n (zipE op xs ys) :: K)) := by
 refine fn_know (vwe_len hx) ?_; intro hlx; refine fn_know (vwe_len hy) ?_; intro hly; refine fe_ Tryz.func147 Tryz.ntmps147 [(0, .slice A n ca), (1, .slice B n cb), (2, .func (.func F) fst.toArray #[])] ?_
 have hz : (zipE op xs ys).length = n := zipE_len hlx hly
 refine go_ ?_; refine sl_make (lo := .tmp 16) (i := default) (k := n) (c := n) (bytes := 16) (size := 2) (z := .agg #[.int .u64 0, .int .u64 0]) (e := 102) rfl rfl rfl infoE (Nat.le_refl _) (by omega) (by unfold maxLen; omega) rfl ?_; intro g; rw [show ((madeCells (Value.agg #[.int .u64 0, .int .u64 0]).cells (n * 2)).toList.take (n * 2)) = rows eC (fillz (zipE op xs ys) 0) by rw [fillz_zero, hz]; exact made_rows (k := 1) rfl]; refine go_ ?_; refine sc_for (fun j : Nat => [(0, .slice A n ca), (1, .slice B n cb), (2, .func (.func F) fst.toArray #[]), (8, .slice (some ⟨g, 0, none⟩) n n), (19, .int .i64 n), (20, .int .i64 j)]) (fun j => eo (some ⟨g, 0, none⟩) n n (fillz (zipE op xs ys) j) :: K) (fun j => j ≤ n) (fun j => n - j) 0 has_ sub_ (Nat.zero_le _) ?_; rintro j hj
 by_cases hlt : j < n
 case neg =>
  obtain rfl : j = n := by omega
  rw [show fillz (zipE op xs ys) j = zipE op xs ys by conv => lhs; rw [← hz]
                                                      exact fillz_all _]
  refine go_ ?_; exact r2_ g
 have hjx : j < xs.length := by omega
 have hjy : j < ys.length := by omega
 refine sc_know (vw_form (L := eo (some ⟨g, 0, none⟩) n n (fillz (zipE op xs ys) j) :: K) (hx.mono sub_) (by omega)) ?_; rintro ⟨a1, rfl⟩; refine sc_know (vw_form (L := eo (some ⟨g, 0, none⟩) n n (fillz (zipE op xs ys) j) :: K) (hy.mono sub_) (by omega)) ?_; rintro ⟨a2, rfl⟩
 have hs : (rows eC (fillz (zipE op xs ys) j)).take (j * 2) ++ eC (op xs[j] ys[j]) ++ (rows eC (fillz (zipE op xs ys) j)).drop (j * 2 + (eC (op xs[j] ys[j])).length) = rows eC (fillz (zipE op xs ys) (j + 1)) := by
  rw [← zipE_at (op := op) hjx hjy (by omega), ← fillz_set (by omega)]; exact rows_put eC_len _ (by rw [fillz_len _ (by omega)]; omega)
 refine go_ ?_; refine sd_drawn (S2 (K) []) (fun _ => true) (by kernel_rfl) 14 rfl ?_; refine wz_ 0 ?_; refine wz_ 1 ?_; refine wz_ 2 ?_; refine wz_ 3 ?_; refine wz_ 4 ?_; refine wz_ 5 ?_; refine sd_yes2 6 rfl gd_ (by kernel_rfl) (by kernel_rfl) nop_ (pu_sepK (pu_ldrs hx (by omega) rfl (rows_mid eC_len (List.getElem?_eq_getElem hjx)) rfl rfl rfl)) rfl (fun w hw => ⟨hw.sub sub_, by exact all_ hw⟩) ?_; refine wz_ 7 ?_; refine wz_ 8 ?_; refine wz_ 9 ?_; refine sd_yes2 10 rfl gd_ (by kernel_rfl) (by kernel_rfl) nop_ (pu_sepK (pu_ldrs hy (by omega) rfl (rows_mid eC_len (List.getElem?_eq_getElem hjy)) rfl rfl rfl)) rfl (fun w hw => ⟨hw.sub sub_, by exact all_ hw⟩) ?_; refine w1_ 11 ?_; refine sl_callm (cap := []) rfl rfl hf rfl Sub.refl (hop (els_at ex hjx) (els_at ey hjy)) ?_; rintro _ -; refine wm_ ?_; refine wz_ 12 ?_; refine w1_ 13 ?_; refine sl_sto_mid (i := j * 2) (cl := eC (op xs[j] ys[j])) (by rw [show ((⟨g, 0, none⟩ : Addr).add (j * 2)) = ⟨g, j * 2, none⟩ from at1 g (j * 2)]; rfl) pick_ rfl rfl (by show j * 2 + 2 ≤ n * 2; omega) (eC_one _) ?_; rw [hs]; refine wm_ ?_; refine wx_ ?_; refine go_ ?_; exact se_round (j + 1) has_ sub_ (by omega) (by omega)
theorem callable_fAdd : callable Tryz.prog 148 = true := by kernel_rfl
def addV (f : Int) (xs ys : List Int) : List Int := zipE (fAdd f) xs ys
theorem addV_els (f : Int) (xs ys : List Int) : Els (addV f xs ys) := zipE_els (fAdd_El f)
theorem addVec_ok {K : List Fa} {A B : Option Addr} {n ca cb : Nat} {xs ys : List Int} {f : Int}
  (hx : Vw K (fun w => Reads w 2 A n (rows eC xs))) (hy : Vw K (fun w => Reads w 2 B n (rows eC ys))) (ex : Els xs) (ey : Els ys) (hn : n ≤ 1000000) :
  Fn Tryz.prog 119 #[.int .u8 f, .slice A n ca, .slice B n cb] K (Ret (fun _ : Nat => True) (fun g => .tuple #[.slice (some ⟨g, 0, none⟩) n n, .int .i64 0]) (fun g => eo (some ⟨g, 0, none⟩) n n (addV f xs ys) :: K)) := by
 refine fe_ Tryz.func119 Tryz.ntmps119 [(0, .int .u8 f), (1, .slice A n ca), (2, .slice B n cb)] ?_; refine go_ ?_; refine sl_pu (pu_mkf (fst := [.int .u8 f]) (cap := []) rfl rfl) rfl ?_; refine slc_ rfl rfl Sub.refl (pair_ok (fst := [.int .u8 f]) (op := fAdd f) callable_fAdd (fun h1 h2 => fAdd_ok h1 h2) hx hy ex ey hn) ?_; rintro g -; refine go_ ?_; exact r2_ g
end
end
section
open Go.Shelf Go.RowKit
def layLen_ren : Go.Shelf.Ren := ⟨fun | 125 => 143 | 128 => 173 | 129 => 174 | n => n, fun | 46 => 221 | 3 => 3 | 51 => 26 | 53 => 36 | 4 => 4 | 5 => 5 | 9 => 9 | n => n, fun | n => n⟩
theorem layLen : Go.Proofs.Lays.n125 Tryz.prog layLen_ren := {
 mixed := by kernel_rfl
 f125 := Tryz.func143.trans (congrArg some (by kernel_rfl))
 f128 := Tryz.func173.trans (congrArg some (by kernel_rfl))
 f129 := Tryz.func174.trans (congrArg some (by kernel_rfl))
 t3 := Tryz.underlying3
 a3 := Tryz.isAgg3
 z3 := Tryz.sizeOf3
 v3 := Tryz.zeroValue3
 t4 := Tryz.underlying4
 a4 := Tryz.isAgg4
 z4 := Tryz.sizeOf4
 v4 := Tryz.zeroValue4
 t5 := Tryz.underlying5
 a5 := Tryz.isAgg5
 z5 := Tryz.sizeOf5
 v5 := Tryz.zeroValue5
 t9 := Tryz.underlying9
 a9 := Tryz.isAgg9
 z9 := Tryz.sizeOf9
 v9 := Tryz.zeroValue9
 t46 := Tryz.underlying221
 a46 := Tryz.isAgg221
 z46 := Tryz.sizeOf221
 v46 := Tryz.zeroValue221
 t51 := Tryz.underlying26
 a51 := Tryz.isAgg26
 z51 := Tryz.sizeOf26
 v51 := Tryz.zeroValue26
 t53 := Tryz.underlying36
 a53 := Tryz.isAgg36
 z53 := Tryz.sizeOf36
 v53 := Tryz.zeroValue36 }
theorem fn_eq {P : Program} {f : FuncId} {args : Array Value} {v : Value} {K : List Fa} (h : ∀ W, Calls P f args W fun e w' => e = .returned v ∧ w' = W) : Fn P f args K (Ret (fun _ : Unit => True) (fun _ => v) (fun _ => K)) := by
 unfold Fn
 intro w hw; refine (h w).mono ?_; rintro e w' ⟨rfl, rfl⟩; exact ⟨(), trivial, rfl, hw⟩
theorem len_c (x : Int) (h0 : 0 ≤ x) (h1 : x ≤ 18446744073709551615) (w : World) : Calls Tryz.prog 143 #[.int .u64 x] w fun e w' => e = .returned (.int .i64 (Lib.bitLen x.toNat)) ∧ w' = w := Any.bits_Len layLen x w h0 h1
end
section
open Go.RowKit
attribute [local irreducible] Go.Calls Go.Exit.then Go.Exit.inBlock Go.bodyPost Go.Code.wp Go.wpList
structure Ci where
 kd : Int
 fl : Int
 bt : Int
 ln : Int
 wt : Int
 ch : Int
 hk : 0 ≤ kd ∧ kd ≤ 255
 hf : 0 ≤ fl ∧ fl ≤ 255
 hb : -9223372036854775808 ≤ bt ∧ bt ≤ 9223372036854775807
 hl : -9223372036854775808 ≤ ln ∧ ln ≤ 9223372036854775807
 hw : -9223372036854775808 ≤ wt ∧ wt ≤ 9223372036854775807
 hc : -9223372036854775808 ≤ ch ∧ ch ≤ 9223372036854775807
def cCells (kd fl bt ln wt ch : Int) : List Value := [.int .u8 kd, .int .u8 fl, .int .i64 bt, .int .i64 ln, .int .i64 wt, .int .i64 ch]
def Ci.cells (c : Ci) : List Value := [.int .u8 c.kd, .int .u8 c.fl, .int .i64 c.bt, .int .i64 c.ln, .int .i64 c.wt, .int .i64 c.ch]
def Ci.v (c : Ci) : Value := .agg c.cells.toArray
theorem valid_ok {K : List Fa} (f : Int) : Fn Tryz.prog 133 #[.int .u8 f] K (Ret (fun _ : Unit => True) (fun _ => .bool (decide (f = 1 ∨ f = 2))) (fun _ => K)) := by
 refine fe_ Tryz.func133 Tryz.ntmps133 [(0, .int .u8 f)] ?_
 by_cases h1 : f = 1
 ·subst h1; refine go_ ?_; exact r1_ ()
 ·by_cases h2 : f = 2
  ·subst h2; refine go_ ?_; exact r1_ ()
  ·have e : decide (f = 1 ∨ f = 2) = false := by simp [h1, h2]
   rw [e]; refine go_ ?_; exact r1_ ()
def wi (n m : Int) (u : Bool) : Bool := if u then decide (1 ≤ n ∧ n ≤ m) else decide (n = 0)
theorem cwithin_ok {K : List Fa} (n m : Int) (u : Bool) : Fn Tryz.prog 134 #[.int .i64 n, .int .i64 m, .bool u] K (Ret (fun _ : Unit => True) (fun _ => .bool (wi n m u)) (fun _ => K)) := by
 refine fe_ Tryz.func134 Tryz.ntmps134 [(0, .int .i64 n), (1, .int .i64 m), (2, .bool u)] ?_
 cases u with
 | false =>
  rw [show wi n m false = decide (n = 0) from rfl]; refine go_ ?_; exact r1_ ()
 | true =>
  by_cases h1 : 1 ≤ n
  ·rw [show wi n m true = decide (n ≤ m) by simp [wi, h1]]; refine go_ ?_; exact r1_ ()
  ·rw [show wi n m true = false by simp [wi, h1]]; refine go_ ?_; exact r1_ ()
theorem wbits_ok {K : List Fa} (kd fl bt ln wt ch : Int) (h : wt ≤ 9223372036854775807) : Fn Tryz.prog 200 #[.agg (cCells kd fl bt ln wt ch).toArray] K (Ret (fun _ : Unit => True) (fun _ => .int .i64 (Lib.bitLen (max wt 0).toNat)) (fun _ => K)) := by
 refine fe_ Tryz.func200 Tryz.ntmps200 [(0, .agg (cCells kd fl bt ln wt ch).toArray)] ?_; refine go_ ?_; refine bx_ ?_; intro g1; refine go_ ?_; refine slc_ rfl rfl Sub.refl (fn_eq (len_c _ (by omega) (by omega))) ?_; rintro _ -; rw [show (if wt < 0 then 0 else wt) = max wt 0 by omega]; refine go_ ?_; exact r1_ ()
def inN (kd bt ln wt : Int) : Int := if kd = 1 then 1 else if kd = 2 then bt else if kd = 3 then ln * bt else if kd = 4 then ln else if kd = 5 then ln + Lib.bitLen wt.toNat else 0
theorem bl_le {wt : Int} (h0 : 0 ≤ wt) (h1 : wt ≤ 64) : (Lib.bitLen (max wt 0).toNat : Int) ≤ 8 ∧ max wt 0 = wt := by
 have h := Lib.bitLen_le8 ⟨(max wt 0).toNat, by omega⟩
 have h' : Lib.bitLen (max wt 0).toNat ≤ 8 := h
 exact ⟨by omega, by omega⟩
theorem mul_le {a b m n : Int} (h0 : 0 ≤ a) (h1 : a ≤ m) (h2 : 0 ≤ b) (h3 : b ≤ n) : 0 ≤ a * b ∧ a * b ≤ m * n :=
 ⟨Int.mul_nonneg h0 h2, Int.mul_le_mul h1 h3 h2 (by omega)⟩
theorem in_ok {K : List Fa} {kd fl bt ln wt ch : Int} (hb : 0 ≤ bt ∧ bt ≤ 32) (hl : 0 ≤ ln ∧ ln ≤ 64) (hw : 0 ≤ wt ∧ wt ≤ 64) :
  Fn Tryz.prog 160 #[.agg (cCells kd fl bt ln wt ch).toArray] K (Ret (fun _ : Unit => True) (fun _ => .int .i64 (inN kd bt ln wt)) (fun _ => K)) := by
 refine fe_ Tryz.func160 Tryz.ntmps160 [(0, .agg (cCells kd fl bt ln wt ch).toArray)] ?_; refine go_ ?_; refine bx_ ?_; intro g1
 by_cases h1 : kd = 1
 ·subst h1; refine go_ ?_; exact r1_ ()
 by_cases h2 : kd = 2
 ·subst h2; rw [show inN 2 bt ln wt = bt by simp [inN]]; refine go_ ?_; exact r1_ ()
 by_cases h3 : kd = 3
 ·subst h3
  have hm := mul_le hl.1 hl.2 hb.1 hb.2
  rw [show inN 3 bt ln wt = ln * bt by simp [inN]]; refine go_ ?_; exact r1_ ()
 by_cases h4 : kd = 4
 ·subst h4; rw [show inN 4 bt ln wt = ln by simp [inN]]; refine go_ ?_; exact r1_ ()
 by_cases h5 : kd = 5
 ·subst h5
  have hbl := bl_le hw.1 hw.2
  rw [show inN 5 bt ln wt = ln + Lib.bitLen (max wt 0).toNat by rw [hbl.2]; simp [inN]]; refine go_ ?_; refine dr_ [blk g1 32 (cCells 5 fl bt ln wt ch)] 6 ?_; refine y2_ 0 1 ?_; refine wy_ 2 ?_; refine w1_ 3 ?_; refine slc_ rfl rfl sub_ (wbits_ok 5 fl bt ln wt ch (by omega)) ?_; rintro _ -; refine vy_ 4 ?_; refine wy_ 5 ?_; refine wx_ ?_; refine go_ ?_; exact r1_ ()
 ·rw [show inN kd bt ln wt = 0 by simp [inN, h1, h2, h3, h4, h5]]; refine go_ ?_; exact r1_ ()
theorem inN_le {kd bt ln wt : Int} (hb : 0 ≤ bt ∧ bt ≤ 32) (hl : 0 ≤ ln ∧ ln ≤ 64) (hw : 0 ≤ wt ∧ wt ≤ 64) : 0 ≤ inN kd bt ln wt ∧ inN kd bt ln wt ≤ 2048 := by
 have hm := mul_le hl.1 hl.2 hb.1 hb.2
 have hbl := bl_le hw.1 hw.2
 rw [hbl.2] at hbl
 unfold inN
 split
 ·omega
 split
 ·omega
 split
 ·omega
 split
 ·omega
 split
 ·omega
 ·omega
def callsN (kd bt ln wt ch : Int) : Int := if kd = 1 then 1 else if kd = 2 then bt else if kd = 3 ∨ kd = 4 ∨ kd = 5 then (if 0 < ch then (inN kd bt ln wt + ch - 1) / ch else 0) else 0
theorem quo_le {p q : Int} (h : 0 ≤ p) (hq : 0 < q) : 0 ≤ p / q ∧ p / q ≤ p := ⟨Int.ediv_nonneg h (by omega), Int.ediv_le_self _ h⟩
theorem e1_Ca (h : φ := by (refine y4_ 0 2 3 6 ?_; refine wy_ 7 ?_; refine w1_ 1 ?_; refine slc_ rfl rfl sub_ (in_ok hb hl hw) ?_; rintro _ -; rw [hi]; refine vy_ 4 ?_; refine y2_ 5 8 ?_; refine wy_ 9 ?_; refine wx_ ?_; refine go_ ?_; exact r1_ ())) : φ := h
theorem calls_ok {K : List Fa} {kd fl bt ln wt ch : Int} (hb : 0 ≤ bt ∧ bt ≤ 32) (hl : 0 ≤ ln ∧ ln ≤ 64) (hw : 0 ≤ wt ∧ wt ≤ 64) (hc : ch ≤ 16) :
  Fn Tryz.prog 135 #[.agg (cCells kd fl bt ln wt ch).toArray] K (Ret (fun _ : Unit => True) (fun _ => .int .i64 (callsN kd bt ln wt ch)) (fun _ => K)) := by
 refine fe_ Tryz.func135 Tryz.ntmps135 [(0, .agg (cCells kd fl bt ln wt ch).toArray)] ?_
 have hin := inN_le (kd := kd) hb hl hw
 refine go_ ?_; refine bx_ ?_; intro g1
 by_cases h1 : kd = 1
 ·subst h1; refine go_ ?_; exact r1_ ()
 by_cases h2 : kd = 2
 ·subst h2; rw [show callsN 2 bt ln wt ch = bt by simp [callsN]]; refine go_ ?_; exact r1_ ()
 by_cases h0 : 0 < ch
 ·have hq := quo_le (p := inN kd bt ln wt + ch - 1) (q := ch) (by omega) h0
  by_cases h3 : kd = 3
  ·subst h3; rw [show callsN 3 bt ln wt ch = (inN 3 bt ln wt + ch - 1) / ch by simp [callsN, h0]]
   generalize hi : inN 3 bt ln wt = m at hin hq ⊢
   refine go_ ?_; refine dr_ [blk g1 32 (cCells 3 fl bt ln wt ch)] 10 ?_; exact e1_Ca
  by_cases h4 : kd = 4
  ·subst h4; rw [show callsN 4 bt ln wt ch = (inN 4 bt ln wt + ch - 1) / ch by simp [callsN, h0]]
   generalize hi : inN 4 bt ln wt = m at hin hq ⊢
   refine go_ ?_; refine dr_ [blk g1 32 (cCells 4 fl bt ln wt ch)] 10 ?_; exact e1_Ca
  by_cases h5 : kd = 5
  ·subst h5; rw [show callsN 5 bt ln wt ch = (inN 5 bt ln wt + ch - 1) / ch by simp [callsN, h0]]
   generalize hi : inN 5 bt ln wt = m at hin hq ⊢
   refine go_ ?_; refine dr_ [blk g1 32 (cCells 5 fl bt ln wt ch)] 10 ?_; exact e1_Ca
  ·rw [show callsN kd bt ln wt ch = 0 by simp [callsN, h1, h2, h3, h4, h5]]; refine go_ ?_; exact r1_ ()
 ·have e : callsN kd bt ln wt ch = 0 := by simp [callsN, h1, h2, h0]
  rw [e]
  by_cases h3 : kd = 3
  ·subst h3; refine go_ ?_; exact r1_ ()
  by_cases h4 : kd = 4
  ·subst h4; refine go_ ?_; exact r1_ ()
  by_cases h5 : kd = 5
  ·subst h5; refine go_ ?_; exact r1_ ()
  ·refine go_ ?_; exact r1_ ()
section
def uB (kd : Int) : Bool := decide (kd = 2 ∨ kd = 3)
def uL (kd : Int) : Bool := decide (kd = 3 ∨ kd = 4 ∨ kd = 5)
def uW (kd : Int) : Bool := decide (kd = 5)
def ciIn (kd bt ln wt ch : Int) : Bool := wi bt 32 (uB kd) && wi ln 64 (uL kd) && wi wt ln (uW kd) && wi ch 16 (uL kd)
def ciErr (kd fl bt ln wt ch : Int) : Int := if ¬ (fl = 1 ∨ fl = 2) then 7 else if kd < 1 ∨ 5 < kd then 10 else if ciIn kd bt ln wt ch = false then 6 else if 511 < callsN kd bt ln wt ch then 5 else 0
theorem wi_le {n m : Int} {u : Bool} (h : wi n m u = true) (hm : 0 ≤ m) : 0 ≤ n ∧ n ≤ m := by
 cases u <;> simp [wi] at h <;> omega
theorem ci_le {kd bt ln wt ch : Int} (h : ciIn kd bt ln wt ch = true) : (0 ≤ bt ∧ bt ≤ 32) ∧ (0 ≤ ln ∧ ln ≤ 64) ∧ (0 ≤ wt ∧ wt ≤ 64) ∧ 0 ≤ ch ∧ ch ≤ 16 := by
 simp only [ciIn, Bool.and_eq_true] at h
 obtain ⟨⟨⟨h1, h2⟩, h3⟩, h4⟩ := h
 have e1 := wi_le h1 (by decide)
 have e2 := wi_le h2 (by decide)
 have e3 := wi_le h3 (by omega)
 have e4 := wi_le h4 (by decide)
 exact ⟨e1, e2, ⟨e3.1, by omega⟩, e4⟩
theorem mid4 {cs : List Value} {i : Nat} {a b c d : Value} (h0 : cs[i]? = some a) (h1 : cs[i + 1]? = some b) (h2 : cs[i + 2]? = some c) (h3 : cs[i + 3]? = some d) : Mid cs i [a, b, c, d] := by
 intro j v hj
 match j with
 | 0 => exact h0.trans hj
 | 1 => exact h1.trans hj
 | 2 => exact h2.trans hj
 | 3 => exact h3.trans hj
 | j + 4 => simp at hj
def usesL : List Value := [.bool false, .bool false, .bool false, .bool false, .bool false, .bool false, .bool false, .bool false, .bool true, .bool false, .bool false, .bool false, .bool true, .bool true, .bool false, .bool true, .bool false, .bool true, .bool false, .bool true, .bool false, .bool true, .bool true, .bool true]
theorem uses_mid {kd : Int} (h1 : 1 ≤ kd) (h5 : kd ≤ 5) : Mid usesL (0 + kd.toNat * 4) [.bool (uB kd), .bool (uL kd), .bool (uW kd), .bool (uL kd)] := by
 rcases (show kd = 1 ∨ kd = 2 ∨ kd = 3 ∨ kd = 4 ∨ kd = 5 by omega) with rfl | rfl | rfl | rfl | rfl <;> exact mid4 rfl rfl rfl rfl
theorem one4 (a b c d : Bool) : ∀ v ∈ [Value.bool a, .bool b, .bool c, .bool d], v.oneCell' = true := by
 intro v hv
 simp only [List.mem_cons, List.not_mem_nil, or_false] at hv
 rcases hv with rfl | rfl | rfl | rfl <;> rfl
namespace pCb
theorem onex_ (h : φ := by exact one4 _ _ _ _) : φ := h
end pCb
open pCb
theorem o1_Cb (h : φ := by exact r1_ ()) : φ := h
theorem ccheck_ok {K : List Fa} (kd fl bt ln wt ch : Int) :
  Fn Tryz.prog 103 #[.agg (cCells kd fl bt ln wt ch).toArray] K (Ret (fun _ : Unit => True) (fun _ => .int .i64 (ciErr kd fl bt ln wt ch)) (fun _ => K)) := by
 refine fe_ Tryz.func103 Tryz.ntmps103 [(0, .agg (cCells kd fl bt ln wt ch).toArray)] ?_; refine go_ ?_; refine bx_ ?_; intro g1; refine go_ ?_; refine slc_ rfl rfl sub_ (valid_ok fl) ?_; rintro _ -
 by_cases hf : fl = 1 ∨ fl = 2
 case neg =>
  rw [decide_eq_false hf, show ciErr kd fl bt ln wt ch = 7 by simp [ciErr, hf]]; refine go_ ?_; exact o1_Cb
 rw [decide_eq_true hf]
 by_cases hk1 : kd < 1
 ·rw [show ciErr kd fl bt ln wt ch = 10 by simp [ciErr, hf, hk1]]; refine go_ ?_; exact o1_Cb
 by_cases hk5 : 5 < kd
 ·rw [show ciErr kd fl bt ln wt ch = 10 by simp [ciErr, hf, hk5]]; refine go_ ?_; exact o1_Cb
 have he : ciErr kd fl bt ln wt ch = if ciIn kd bt ln wt ch = false then 6 else if 511 < callsN kd bt ln wt ch then 5 else 0 := by simp only [ciErr, hf, hk1, hk5]; simp
 rw [he]
 refine go_ ?_; refine sl_pu (pu_build (v := .agg #[.bool true, .bool false, .bool false, .bool false]) rfl (fun W => by kernel_rfl)) rfl ?_; refine sl_pu (pu_build (v := .agg #[.bool true, .bool true, .bool false, .bool true]) rfl (fun W => by kernel_rfl)) rfl ?_; refine sl_pu (pu_build (v := .agg #[.bool false, .bool true, .bool false, .bool true]) rfl (fun W => by kernel_rfl)) rfl ?_; refine sl_pu (pu_build (v := .agg #[.bool false, .bool true, .bool true, .bool true]) rfl (fun W => by kernel_rfl)) rfl ?_; refine sl_pu (pu_build (v := .agg #[.bool false, .bool false, .bool false, .bool false, .bool false, .bool false, .bool false, .bool false, .bool true, .bool false, .bool false, .bool false, .bool true, .bool true, .bool false, .bool true, .bool false, .bool true, .bool false, .bool true, .bool false, .bool true, .bool true, .bool true]) rfl (fun W => by kernel_rfl)) rfl ?_; refine al_ ?_; intro g2; refine go_ ?_; refine sl_pu (pu_lds (cl := [.bool (uB kd), .bool (uL kd), .bool (uW kd), .bool (uL kd)]) at_ rfl (uses_mid (by omega) (by omega)) rfl rfl rfl) rfl ?_
 generalize hub : uB kd = ub
 generalize hul : uL kd = ul
 generalize huw : uW kd = uw
 refine al_ ?_; intro g3; refine go_ ?_; refine slc_ rfl rfl sub_ (cwithin_ok bt 32 (ub)) ?_; rintro _ -
 cases w0 : wi bt 32 (ub) with
 | false =>
  rw [show ciIn kd bt ln wt ch = false by simp [ciIn, hub, hul, huw, w0], if_pos rfl]; refine go_ ?_; exact o1_Cb
 | true =>
 refine go_ ?_; refine slc_ rfl rfl sub_ (cwithin_ok ln 64 (ul)) ?_; rintro _ -
 cases w1 : wi ln 64 (ul) with
 | false =>
  rw [show ciIn kd bt ln wt ch = false by simp [ciIn, hub, hul, huw, w1], if_pos rfl]; refine go_ ?_; exact o1_Cb
 | true =>
 refine go_ ?_; refine slc_ rfl rfl sub_ (cwithin_ok wt ln (uw)) ?_; rintro _ -
 cases w2 : wi wt ln (uw) with
 | false =>
  rw [show ciIn kd bt ln wt ch = false by simp [ciIn, hub, hul, huw, w2], if_pos rfl]; refine go_ ?_; exact o1_Cb
 | true =>
 refine go_ ?_; refine slc_ rfl rfl sub_ (cwithin_ok ch 16 (ul)) ?_; rintro _ -
 cases w3 : wi ch 16 (ul) with
 | false =>
  rw [show ciIn kd bt ln wt ch = false by simp [ciIn, hub, hul, huw, w3], if_pos rfl]; refine go_ ?_; exact o1_Cb
 | true =>
 have hi : ciIn kd bt ln wt ch = true := by simp [ciIn, hub, hul, huw, w0, w1, w2, w3]
 obtain ⟨q1, q2, q3, q4⟩ := ci_le hi
 rw [hi, if_neg (by simp)]; refine go_ ?_; refine slc_ rfl rfl sub_ (calls_ok q1 q2 q3 q4.2) ?_; rintro _ -
 by_cases hm : 511 < callsN kd bt ln wt ch
 ·rw [if_pos hm]; refine go_ ?_; exact o1_Cb
 ·rw [if_neg hm]; refine go_ ?_; exact o1_Cb
end
section
def tCells (kd fl bt ln wt ch np : Int) (tag : ByteArray) : List Value := cCells kd fl bt ln wt ch ++ [.int .i64 np, .string tag]
def tErr (kd fl bt ln wt ch np : Int) (tag : ByteArray) : Int := if ciErr kd fl bt ln wt ch ≠ 0 then ciErr kd fl bt ln wt ch else if np < 1 ∨ 3 < np ∨ 32 < (tag.size : Int) then 6 else 0
namespace pCc
theorem midx_ (h : φ := by first | exact Mid.head | exact Mid.all) : φ := h
end pCc
open pCc
theorem tcheck_ok {K : List Fa} (kd fl bt ln wt ch np : Int) (tag : ByteArray) :
  Fn Tryz.prog 63 #[.agg (tCells kd fl bt ln wt ch np tag).toArray] K (Ret (fun _ : Unit => True) (fun _ => .int .i64 (tErr kd fl bt ln wt ch np tag)) (fun _ => K)) := by
 refine fe_ Tryz.func63 Tryz.ntmps63 [(0, .agg (tCells kd fl bt ln wt ch np tag).toArray)] ?_; refine go_ ?_; refine bx_ ?_; intro g1; refine go_ ?_; refine slc_ rfl rfl sub_ (ccheck_ok kd fl bt ln wt ch) ?_; rintro _ -
 by_cases hc : ciErr kd fl bt ln wt ch = 0
 case neg =>
  rw [show tErr kd fl bt ln wt ch np tag = ciErr kd fl bt ln wt ch by simp [tErr, hc]]; refine go_ ?_; exact r1_ ()
 rw [hc]
 by_cases h1 : np < 1
 ·rw [show tErr kd fl bt ln wt ch np tag = 6 by simp [tErr, hc, h1]]; refine go_ ?_; exact r1_ ()
 by_cases h2 : 3 < np
 ·rw [show tErr kd fl bt ln wt ch np tag = 6 by simp [tErr, hc, h2]]; refine go_ ?_; exact r1_ ()
 by_cases h3 : 32 < (tag.size : Int)
 ·rw [show tErr kd fl bt ln wt ch np tag = 6 by simp only [tErr, hc, h3]; simp]; refine go_ ?_; exact r1_ ()
 ·rw [show tErr kd fl bt ln wt ch np tag = 0 by simp only [tErr, hc, h1, h2, h3]; simp]; refine go_ ?_; exact r1_ ()
def outN (kd ln : Int) : Int := if kd = 1 ∨ kd = 2 then 1 else if kd = 3 ∨ kd = 4 ∨ kd = 5 then ln else 0
theorem o1_Cc (h : φ := by exact r1_ ()) : φ := h
theorem out_ok {K : List Fa} (kd fl bt ln wt ch : Int) :
  Fn Tryz.prog 30 #[.agg (cCells kd fl bt ln wt ch).toArray] K (Ret (fun _ : Unit => True) (fun _ => .int .i64 (outN kd ln)) (fun _ => K)) := by
 refine fe_ Tryz.func30 Tryz.ntmps30 [(0, .agg (cCells kd fl bt ln wt ch).toArray)] ?_; refine go_ ?_; refine bx_ ?_; intro g1
 by_cases h1 : kd = 1
 ·subst h1; refine go_ ?_; exact o1_Cc
 by_cases h2 : kd = 2
 ·subst h2; refine go_ ?_; exact o1_Cc
 by_cases h3 : kd = 3
 ·subst h3; rw [show outN 3 ln = ln by simp [outN]]; refine go_ ?_; exact o1_Cc
 by_cases h4 : kd = 4
 ·subst h4; rw [show outN 4 ln = ln by simp [outN]]; refine go_ ?_; exact o1_Cc
 by_cases h5 : kd = 5
 ·subst h5; rw [show outN 5 ln = ln by simp [outN]]; refine go_ ?_; exact o1_Cc
 ·rw [show outN kd ln = 0 by simp [outN, h1, h2, h3, h4, h5]]; refine go_ ?_; exact o1_Cc
end
attribute [local irreducible] hashL ofId
section
structure Ta where
 kd : Int
 fl : Int
 bt : Int
 ln : Int
 wt : Int
 ch : Int
 np : Int
 tag : ByteArray
def Ta.ci (t : Ta) : List Value := cCells t.kd t.fl t.bt t.ln t.wt t.ch
def Ta.c (t : Ta) : List Value := tCells t.kd t.fl t.bt t.ln t.wt t.ch t.np t.tag
def Ta.err (t : Ta) : Int := tErr t.kd t.fl t.bt t.ln t.wt t.ch t.np t.tag
def Ta.out (t : Ta) : Int := outN t.kd t.ln
theorem Ta.one (t : Ta) : ∀ v ∈ t.c, v.oneCell' = true := by
 intro v hv
 simp only [Ta.c, tCells, cCells, List.cons_append, List.nil_append, List.mem_cons, List.not_mem_nil, or_false] at hv
 rcases hv with rfl | rfl | rfl | rfl | rfl | rfl | rfl | rfl <;> rfl
theorem Ta.mid (t : Ta) : Mid t.c 0 t.ci := Mid.head
theorem Ta.ci_err {t : Ta} (h : t.err = 0) : ciErr t.kd t.fl t.bt t.ln t.wt t.ch = 0 := by
 unfold Ta.err tErr at h
 by_cases hc : ciErr t.kd t.fl t.bt t.ln t.wt t.ch = 0
 ·exact hc
 ·rw [if_pos hc] at h
  exact absurd h hc
theorem ci_ok {kd fl bt ln wt ch : Int} (h : ciErr kd fl bt ln wt ch = 0) : (fl = 1 ∨ fl = 2) ∧ (1 ≤ kd ∧ kd ≤ 5) ∧ ciIn kd bt ln wt ch = true ∧ callsN kd bt ln wt ch ≤ 511 := by
 unfold ciErr at h
 split at h
 ·omega
 split at h
 ·omega
 split at h
 ·omega
 split at h
 ·omega
 rename_i h1 h2 h3 h4
 exact ⟨Decidable.of_not_not h1, by omega, by simpa using h3, by omega⟩
theorem Ta.le {t : Ta} (h : t.err = 0) : (t.fl = 1 ∨ t.fl = 2) ∧ (1 ≤ t.kd ∧ t.kd ≤ 5) ∧ (0 ≤ t.bt ∧ t.bt ≤ 32) ∧ (0 ≤ t.ln ∧ t.ln ≤ 64) ∧ (0 ≤ t.wt ∧ t.wt ≤ 64) ∧ 0 ≤ t.ch ∧ t.ch ≤ 16 := by
 obtain ⟨h1, h2, h3, _⟩ := ci_ok (t.ci_err h)
 obtain ⟨h4, h5, h6, h7⟩ := ci_le h3
 exact ⟨h1, h2, h4, h5, h6, h7⟩
theorem Ta.out_le {t : Ta} (h : t.err = 0) : 0 ≤ t.out ∧ t.out ≤ 64 := by
 obtain ⟨_, _, _, h4, _⟩ := t.le h
 unfold Ta.out outN
 split
 ·omega
 split <;> omega
def tc (A : Option Addr) (n c : Nat) (m : Int) (k : Id) : List Value := [.slice A n c, .int .i64 m] ++ bytes k.l
theorem tc_len {A : Option Addr} {n c : Nat} {m : Int} {k : Id} : (tc A n c m k).length = 18 := by simp [tc, bytes, k.len]
theorem tc_one {A : Option Addr} {n c : Nat} {m : Int} {k : Id} : ∀ v ∈ tc A n c m k, v.oneCell' = true := by
 intro v hv
 rcases List.mem_append.1 hv with h | h
 ·simp only [List.mem_cons, List.not_mem_nil, or_false] at h
  rcases h with rfl | rfl <;> rfl
 ·exact one_bytes _ v h
theorem tc_mid {A : Option Addr} {n c : Nat} {m : Int} {k : Id} : Mid (tc A n c m k) 2 (bytes k.l) := by
 have := Mid.of_append (a := [Value.slice A n c, .int .i64 m]) (cl := bytes k.l) (b := []) (o := 2) rfl
 rwa [List.append_nil] at this
abbrev tz : List Value := tc none 0 0 0 zId
theorem vwe_nil {K : List Fa} {n : Nat} {xs : List Value} (hr : Vw K (fun w => Reads w 2 none n xs)) : ∀ w, Sep w K → n = 0 := fun w hw => by
 rcases Nat.eq_zero_or_pos n with h | h
 ·exact h
 ·obtain ⟨ad, h1, _⟩ := (hr w hw).2 h
  cases h1
theorem eCs_one (xs : List Int) : ∀ v ∈ rows eC xs, v.oneCell' = true := rows_one_cell eC_one xs
theorem tc_set0 {A B : Option Addr} {n c p d : Nat} {m : Int} {k : Id} : SetAt 0 (.slice B p d) (tc A n c m k) (tc B p d m k) := SetAt.here
theorem tc_n0 {A : Option Addr} {n c : Nat} {m : Int} {k : Id} : nth (tc A n c m k) 0 = some (.slice A n c) := rfl
theorem tc_n1 {A : Option Addr} {n c : Nat} {m : Int} {k : Id} : nth (tc A n c m k) 1 = some (.int .i64 m) := rfl
theorem tc_eq {A : Option Addr} {n c : Nat} {m : Int} {k : Id} : tc A n c m k = [.slice A n c, .int .i64 m] ++ bytes k.l := rfl
theorem list16t {cs : List Value} (h : cs.length = 16) : ∃ a0 a1 a2 a3 a4 a5 a6 a7 a8 a9 a10 a11 a12 a13 a14 a15, cs = [a0, a1, a2, a3, a4, a5, a6, a7, a8, a9, a10, a11, a12, a13, a14, a15] := by
 match cs, h with
 | [a0, a1, a2, a3, a4, a5, a6, a7, a8, a9, a10, a11, a12, a13, a14, a15], _ => exact ⟨a0, a1, a2, a3, a4, a5, a6, a7, a8, a9, a10, a11, a12, a13, a14, a15, rfl⟩
theorem build_t3 (a0 a1 a2 a3 a4 a5 a6 a7 a8 a9 a10 a11 a12 a13 a14 a15 : Value) (A : Option Addr) (n c : Nat) (m : Int) (W : World) : (Instr.build 58 #[(0, .slice A n c), (1, .int .i64 m), (2, .agg #[a0, a1, a2, a3, a4, a5, a6, a7, a8, a9, a10, a11, a12, a13, a14, a15])]).run Tryz.prog W = .ok (.agg #[.slice A n c, .int .i64 m, a0, a1, a2, a3, a4, a5, a6, a7, a8, a9, a10, a11, a12, a13, a14, a15]) W := by kernel_rfl
theorem build_tot (A : Option Addr) (n c : Nat) (m : Int) (k : Id) (W : World) : (Instr.build 58 #[(0, .slice A n c), (1, .int .i64 m), (2, k.v)]).run Tryz.prog W = .ok (.agg (tc A n c m k).toArray) W := by
 obtain ⟨a0, a1, a2, a3, a4, a5, a6, a7, a8, a9, a10, a11, a12, a13, a14, a15, h⟩ := list16t (show (bytes k.l).length = 16 from Id.len_b k)
 have h1 := build_t3 a0 a1 a2 a3 a4 a5 a6 a7 a8 a9 a10 a11 a12 a13 a14 a15 A n c m W
 rw [tc_eq]
 show (Instr.build 58 #[(0, .slice A n c), (1, .int .i64 m), (2, .agg (bytes k.l).toArray)]).run Tryz.prog W = _
 rw [h]; exact h1
theorem tz_eq : tz = [.slice none 0 0, .int .i64 0] ++ bytes zId.l := rfl
theorem new_tc {g : Nat} {t : TypeId} {L : List Fa} {P : Program} {ops : Array Oper} {Q : Exit → Act → World → Prop} {n : Nat} {l : Env} {rest : List Oper} (h : SL P ops Q rest n l (blk g t tz :: L)) : SL P ops Q rest n l (blk g t ([.slice none 0 0, .int .i64 0] ++ bytes zId.l) :: L) := h
attribute [irreducible] tc
namespace pGf
theorem nthx_ (h : φ := by first | exact tc_n0 | exact tc_n1) : φ := h
theorem midx_ (h : φ := by first | exact Ta.mid _ | exact tc_mid | exact Mid.all) : φ := h
theorem szx_ (h : φ := by ((first | (rw [bytes_length, Id.len]; rfl) | (rw [tc_len]; rfl) | rw [tc_len, tc_len]); first | done | fail)) : φ := h
theorem onex_ (h : φ := by first | exact tc_one | exact one_bytes _) : φ := h
theorem setx_ (h : φ := by exact tc_set0) : φ := h
end pGf
open pGf
theorem cloneE_ok {K : List Fa} {A : Option Addr} {n c : Nat} {xs : List Int} (hr : Vw K (fun w => Reads w 2 A n (rows eC xs))) (hn : n ≤ 1000000) :
  Fn Tryz.prog 132 #[.slice A n c] K (Ret (fun _ : Option Addr × Nat => True) (fun q => .slice q.1 n q.2) (fun q => eo q.1 n q.2 xs :: K)) := by
 refine fe_ Tryz.func132 Tryz.ntmps132 [(0, .slice A n c)] ?_
 cases A with
 | none =>
  refine sc_know (vwe_nil hr) ?_; intro h0; subst h0; refine sc_know (vwe_len hr) ?_; intro hl
  obtain rfl : xs = [] := List.eq_nil_of_length_eq_zero hl
  refine go_ ?_; exact se_ret1 (none, 0) trivial rfl rfl (Sub.own_nil Sub.refl)
 | some a =>
  refine go_ ?_; refine sl_build0 (e := 102) (size := 2) rfl (fun W => by kernel_rfl) rfl ?_; intro g0; refine go_ ?_; refine sl_app rfl pick_ rfl (hr.mono sub_) (eCs_one _) rfl infoE (by decide) (by decide) rfl (by unfold maxLen; omega) (by omega) ?_; intro A2 c2; rw [Nat.zero_add, List.nil_append]; refine go_ ?_; exact r1_ (A2, c2)
theorem copied_ok {K : List Fa} {A : Option Addr} {n c : Nat} {m : Int} {k : Id} {xs : List Int} (hr : Vw K (fun w => Reads w 2 A n (rows eC xs))) (hn : n ≤ 1000000) :
  Fn Tryz.prog 102 #[.agg (tc A n c m k).toArray] K (Ret (fun _ : Option Addr × Nat => True) (fun q => .agg (tc q.1 n q.2 m k).toArray) (fun q => eo q.1 n q.2 xs :: K)) := by
 refine fe_ Tryz.func102 Tryz.ntmps102 [(0, .agg (tc A n c m k).toArray)] ?_; refine go_ ?_; refine bx_ ?_; intro g1; refine go_ ?_; refine al_ ?_; intro g2; refine go_ ?_; refine slc_ rfl rfl sub_ (cloneE_ok (hr.mono sub_) hn) ?_; rintro ⟨A2, c2⟩ -; refine go_ ?_; exact se_ret_c (A2, c2) trivial rfl rfl at_ rfl rfl (by rw [tc_len]; rfl) rfl sub_
theorem tnew_ok {K : List Fa} {t : Ta} (h : t.err = 0) :
  Fn Tryz.prog 79 #[.agg t.c.toArray] K (Ret (fun _ : Nat => True) (fun g => .agg (tc (some ⟨g, 0, none⟩) t.out.toNat t.out.toNat 0 zId).toArray) (fun g => eo (some ⟨g, 0, none⟩) t.out.toNat t.out.toNat (List.replicate t.out.toNat 0) :: K)) := by
 refine fe_ Tryz.func79 Tryz.ntmps79 [(0, .agg t.c.toArray)] ?_
 have hol := t.out_le h
 obtain ⟨o, ho⟩ : ∃ o : Nat, t.out = o := ⟨t.out.toNat, by omega⟩
 rw [ho] at hol
 refine go_ ?_; refine bx_ ?_; intro g1; refine go_ ?_; refine al_ ?_; intro g2; refine go_ ?_; refine slc_ rfl rfl Sub.refl (tcheck_ok t.kd t.fl t.bt t.ln t.wt t.ch t.np t.tag) ?_; rintro _ -; rw [show tErr t.kd t.fl t.bt t.ln t.wt t.ch t.np t.tag = 0 from h]; refine go_ ?_; refine slc_ rfl rfl Sub.refl (out_ok t.kd t.fl t.bt t.ln t.wt t.ch) ?_; rintro _ -; rw [show outN t.kd t.ln = (o : Int) from ho]; refine sl_make (lo := .tmp 9) (i := default) (k := o) (c := o) (bytes := 16) (size := 2) (z := .agg #[.int .u64 0, .int .u64 0]) (e := 102) rfl rfl rfl infoE (Nat.le_refl _) (by omega) (by unfold maxLen; omega) rfl ?_; intro g; rw [show ((madeCells (Value.agg #[.int .u64 0, .int .u64 0]).cells (o * 2)).toList.take (o * 2)) = rows eC (List.replicate o 0) from made_rows (k := 1) rfl]; refine sl_pu (pu_build (v := .agg (tc (some ⟨g, 0, none⟩) o o 0 zId).toArray) rfl (fun W => by kernel_rfl)) rfl ?_; refine sl_store_whole rfl pick_ rfl (by rw [tc_len]; rfl) (by rw [tc_len]; rfl) tc_one ?_; refine go_ ?_; exact se_ret_c g trivial rfl rfl at_ rfl rfl (by rw [tc_len]; rfl) (by rw [ho, Int.toNat_natCast]) (by rw [ho, Int.toNat_natCast]; exact sub_)
theorem tadd_ok {K : List Fa} {t : Ta} {A B : Option Addr} {n c cb : Nat} {m : Int} {k id : Id} {xs ys : List Int} (h : t.err = 0) (hm : 0 ≤ m ∧ m < 256) (ho : t.out = n)
  (hx : Vw K (fun w => Reads w 2 A n (rows eC xs))) (hy : Vw K (fun w => Reads w 2 B n (rows eC ys))) (ex : Els xs) (ey : Els ys) :
  Fn Tryz.prog 80 #[.agg (tc A n c m k).toArray, .agg t.c.toArray, id.v, .slice B n cb] K (Ret (fun _ : Nat => True) (fun g => .tuple #[.agg (tc (some ⟨g, 0, none⟩) n n (m + 1) (xorI k (ofId id))).toArray, .int .i64 0]) (fun g => eo (some ⟨g, 0, none⟩) n n (addV t.fl xs ys) :: K)) := by
 refine fe_ Tryz.func80 Tryz.ntmps80 [(0, .agg (tc A n c m k).toArray), (1, .agg t.c.toArray), (2, id.v), (3, .slice B n cb)] ?_
 have hol := t.out_le h
 refine go_ ?_; refine bx_ ?_; intro g1; refine go_ ?_; refine bx_ ?_; intro g2; refine go_ ?_; refine bx_ ?_; intro g3; refine go_ ?_; refine al_ ?_; intro g4; refine go_ ?_; refine slc_ rfl rfl sub_ (tcheck_ok t.kd t.fl t.bt t.ln t.wt t.ch t.np t.tag) ?_; rintro _ -; rw [show tErr t.kd t.fl t.bt t.ln t.wt t.ch t.np t.tag = 0 from h]; refine go_ ?_; refine slc_ rfl rfl sub_ (out_ok t.kd t.fl t.bt t.ln t.wt t.ch) ?_; rintro _ -; rw [show outN t.kd t.ln = (n : Int) from ho]; refine go_ ?_; refine slc_ rfl rfl sub_ (addVec_ok (f := t.fl) (hx.mono sub_) (hy.mono sub_) ex ey (by omega)) ?_; rintro g5 -; refine go_ ?_; refine dr_ [blk g1 58 (tc A n c m k), blk g3 47 (bytes id.l)] 12 ?_; refine y4_ 0 1 2 3 ?_; refine y2_ 4 5 ?_; refine wy_ 6 ?_; refine w1_ 7 ?_; refine slc_ rfl rfl sub_ ofId_ok ?_; rintro _ -; refine v1_ 8 ?_; refine slc_ rfl rfl sub_ with_ok ?_; rintro _ -; refine wn_ ?_; refine wu_ 9 rfl (pu_build (v := .agg (tc (some ⟨g5, 0, none⟩) n n (m + 1) (xorI k (ofId id))).toArray) rfl (build_tot _ _ _ _ _)) ?_; refine w1_ 10 ?_; refine sl_store_whole rfl pick_ rfl (by rw [tc_len]; rfl) (by rw [tc_len]; rfl) tc_one ?_; refine vy_ 11 ?_; refine wx_ ?_; refine go_ ?_; exact se_ret_ct g5 trivial rfl rfl at_ rfl rfl (by rw [tc_len]; rfl) rfl rfl sub_
end
end
end Go.Proofs.YtocaabnbmcpjmaaGreat
