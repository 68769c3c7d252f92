/- Several texts of one claim, one behind the other (Reg4, Ge, Ga, Gb, Gc, Mv, Gd, Ln, Ca, Cb, Cc, Gf). -/
import Derived.Test.YtocaabnbmcpjmaaGreatB06
import Derived.Test.YtocaabnbmcpjmaaGreatB11
import Derived.Test.YtocaabnbmcpjmaaGreatB05
import Derived.Laws.Externs
import Derived.Laws.OwnMore
import Derived.Shelf.Small.Bits
set_option linter.unusedVariables false
set_option linter.unusedSimpArgs false
/- In a region that draws: an operation whose guard itself was passed by. -/
namespace Go.Proofs.YtocaabnbmcpjmaaGreat
open Go.RowKit
section
variable {P : Program} {ops : Array Oper} {Q : Exit → Act → World → Prop} {S : World → Prop} {need : Nat → Bool} {fuel : Nat} {listed : Array Bool} {n : Nat} {l : Env} {L : List Fa} {d : Tmp} {op : Op} {ty : TypeId} {pos : String} {after : Array Edge}
theorem sd_off3 (i : Nat) {j t : Nat} {b : Bool} (hi : ops[i]? = some ⟨some d, op, ty, pos, after, some (j, b)⟩) (hj : (ops[j]?).bind (·.dst) = some t) (ht : lk l t = some undef) (hB : freeOk ops listed i = true) (hN : stayOk2 ops listed need i = true)
    (hQ : NoP Q) (hd : Nat.blt d n = true) (hS : ∀ w, Sep w L → S w) (h : SD P ops Q S need fuel (listed.setIfInBounds i true) n ((d, undef) :: l) L) : SD P ops Q S need (fuel + 1) listed n l L := sd_of fun w hw => by
  have h1 := h.to hw
  unfold WD at h1 ⊢
  intro a hs
  have hwant : Region.wanted ⟨some d, op, ty, pos, after, some (j, b)⟩ (yielded ops a.tmps) = false := by
    have h2 : ((none : Option Bool) == some b) = false := rfl
    simp only [Region.wanted, hs.unyield hj ht, h2]
  obtain ⟨b1, b2, b3⟩ := freeOk_spec hB
  exact wpAnyD_first2 (R := fun j => ∃ f, waitsFor ops listed i f j = true) hi (Region.noSelect_spec b1) (fun c a w => hQ c a _ _ w) (fun j oj ⟨f, hf⟩ hj => waitsFor_edge hf hj) fuel listed a w (fun j oj hj hji hun hnR => stayOk2_spec hN j oj hj hji hun hnR) (fun j ⟨f, hf⟩ => waitsFor_un hf) (Region.free_spec hi b2) (by simpa using b3) (.inr ⟨hwant, rfl⟩) (hS w hw) (h1 _ (hs.put hd undef))
end
end Go.Proofs.YtocaabnbmcpjmaaGreat
/- Package total: an id's check; two checks as one. -/
namespace Go.Proofs.YtocaabnbmcpjmaaGreat
open Go.RowKit
attribute [local irreducible] Go.Calls Go.Exit.then Go.Exit.inBlock Go.bodyPost Go.Code.wp Go.wpList
theorem xor_b8 (x y : Int) : 0 ≤ bits .xor .u8 x y ∧ bits .xor .u8 x y < 256 := by
  have h : ∀ z : Int, 0 ≤ IntKind.u8.wrap z ∧ IntKind.u8.wrap z < 256 := fun z => by
    rw [IntKind.wrap_u8]
    omega
  unfold bits
  exact h _
theorem zip_bytes : ∀ (a b : List Int), IsBytes (List.zipWith (bits .xor .u8) a b) := fun a b x hx => by
  obtain ⟨i, hi, rfl⟩ := List.getElem_of_mem hx
  rw [List.getElem_zipWith]
  exact xor_b8 _ _
/-- Two checks as one. -/
def xorI (a b : Id) : Id := ⟨List.zipWith (bits .xor .u8) a.l b.l, by simp [a.len, b.len], zip_bytes _ _⟩
/-- An id's check. -/
def ofId (a : Id) : Id := ⟨hashL 7 a.l 16, (hashL_ok 7 a.l 16).1, (hashL_ok 7 a.l 16).2⟩
attribute [local irreducible] hashL ofId
def zId : Id := ⟨List.replicate 16 0, rfl, fun x hx => by rw [List.eq_of_mem_replicate hx]; decide⟩
end Go.Proofs.YtocaabnbmcpjmaaGreat
/- Numbers of the fields: their cells; sums; what is below what. -/
namespace Go.Proofs.YtocaabnbmcpjmaaGreat
open Go.RowKit
attribute [local irreducible] Go.Calls Go.Exit.then Go.Exit.inBlock Go.bodyPost Go.Code.wp Go.wpList
/-- An element: a number below 2^128, its low 64 bits, its high ones. -/
def eC (v : Int) : List Value := [.int .u64 (v % 18446744073709551616), .int .u64 (v / 18446744073709551616)]
def El (v : Int) : Prop := 0 ≤ v ∧ v < 340282366920938463463374607431768211456
theorem El.lo {v : Int} : 0 ≤ v % 18446744073709551616 ∧ v % 18446744073709551616 < 18446744073709551616 := by omega
theorem El.hi {v : Int} (h : El v) : 0 ≤ v / 18446744073709551616 ∧ v / 18446744073709551616 < 18446744073709551616 := by unfold El at h; omega
theorem El.of {a b : Int} (ha : 0 ≤ a ∧ a < 18446744073709551616) (hb : 0 ≤ b ∧ b < 18446744073709551616) : El (a + 18446744073709551616 * b) := by unfold El; omega
/-! The small field. -/
end Go.Proofs.YtocaabnbmcpjmaaGreat
/- The wide field: what is below what, sums. -/
namespace Go.Proofs.YtocaabnbmcpjmaaGreat
open Go.RowKit
attribute [local irreducible] Go.Calls Go.Exit.then Go.Exit.inBlock Go.bodyPost Go.Code.wp Go.wpList
def wP : Int := 340282366920938462946865773367900766209
end Go.Proofs.YtocaabnbmcpjmaaGreat
/- Sums in either field; numbers as elements. -/
namespace Go.Proofs.YtocaabnbmcpjmaaGreat
open Go.RowKit
attribute [local irreducible] Go.Calls Go.Exit.then Go.Exit.inBlock Go.bodyPost Go.Code.wp Go.wpList
/-- A sum, in either field. -/
def fAdd (f x y : Int) : Int := if f = 1 then (x % 18446744073709551616 + y % 18446744073709551616) % 18446744069414584321 else if f = 2 then (x + y) % wP else 0
end Go.Proofs.YtocaabnbmcpjmaaGreat
/- Method values: functions with what is bound to them; rows of elements that are made. No program is in sight. -/
namespace Go.Proofs.YtocaabnbmcpjmaaGreat
open Go.RowKit
section
variable {P : Program} {ops : Array Oper} {Q : Exit → Act → World → Prop} {n : Nat} {l : Env} {L L1 : List Fa} {rest : List Oper} {d : Tmp} {ty : TypeId} {pos : String} {after : Array Edge} {x : Operand} {f : FuncId} {fst cap vs : List Value} {zs : List Operand} {ats : Array TypeId} {α : Type} {φ : α → Prop} {vv : α → Value} {H : α → List Fa} {C : World → Prop} {g : Option (Nat × Bool)} {dst : Option Tmp}
end
end Go.Proofs.YtocaabnbmcpjmaaGreat
/- Vectors of elements, place by place. -/
namespace Go.Proofs.YtocaabnbmcpjmaaGreat
open Go.RowKit
attribute [local irreducible] Go.Calls Go.Exit.then Go.Exit.inBlock Go.bodyPost Go.Code.wp Go.wpList
/-- An owned row of elements. -/
abbrev eo (A : Option Addr) (n c : Nat) (xs : List Int) : Fa := own 102 2 A n c (rows eC xs)
def zipE (op : Int → Int → Int) (xs ys : List Int) : List Int := List.zipWith op xs ys
def addV (f : Int) (xs ys : List Int) : List Int := zipE (fAdd f) xs ys
end Go.Proofs.YtocaabnbmcpjmaaGreat
/- The shelf's contract of bits.Len, laid at this program (printed by the kit's lay-plain; its numbers are this seat's). -/
namespace Go.Proofs.YtocaabnbmcpjmaaGreat
open Go.Shelf Go.RowKit
def layLen_ren : Go.Shelf.Ren := ⟨fun | 125 => 143 | 128 => 173 | 129 => 174 | n => n, fun | 46 => 221 | 3 => 3 | 51 => 26 | 53 => 36 | 4 => 4 | 5 => 5 | 9 => 9 | n => n, fun | n => n⟩
theorem layLen : Go.Proofs.Lays.n125 Tryz.prog layLen_ren := {
  mixed := by kernel_rfl
  f125 := Tryz.func143.trans (congrArg some (by kernel_rfl))
  f128 := Tryz.func173.trans (congrArg some (by kernel_rfl))
  f129 := Tryz.func174.trans (congrArg some (by kernel_rfl))
  t3 := Tryz.underlying3
  a3 := Tryz.isAgg3
  z3 := Tryz.sizeOf3
  v3 := Tryz.zeroValue3
  t4 := Tryz.underlying4
  a4 := Tryz.isAgg4
  z4 := Tryz.sizeOf4
  v4 := Tryz.zeroValue4
  t5 := Tryz.underlying5
  a5 := Tryz.isAgg5
  z5 := Tryz.sizeOf5
  v5 := Tryz.zeroValue5
  t9 := Tryz.underlying9
  a9 := Tryz.isAgg9
  z9 := Tryz.sizeOf9
  v9 := Tryz.zeroValue9
  t46 := Tryz.underlying221
  a46 := Tryz.isAgg221
  z46 := Tryz.sizeOf221
  v46 := Tryz.zeroValue221
  t51 := Tryz.underlying26
  a51 := Tryz.isAgg26
  z51 := Tryz.sizeOf26
  v51 := Tryz.zeroValue26
  t53 := Tryz.underlying36
  a53 := Tryz.isAgg36
  z53 := Tryz.sizeOf36
  v53 := Tryz.zeroValue36 }

theorem fn_eq {P : Program} {f : FuncId} {args : Array Value} {v : Value} {K : List Fa} (h : ∀ W, Calls P f args W fun e w' => e = .returned v ∧ w' = W) : Fn P f args K (Ret (fun _ : Unit => True) (fun _ => v) (fun _ => K)) := by
  unfold Fn
  intro w hw
  refine (h w).mono ?_
  rintro e w' ⟨rfl, rfl⟩
  exact ⟨(), trivial, rfl, hw⟩
theorem len_c (x : Int) (h0 : 0 ≤ x) (h1 : x ≤ 18446744073709551615) (w : World) : Calls Tryz.prog 143 #[.int .u64 x] w fun e w' => e = .returned (.int .i64 (Lib.bitLen x.toNat)) ∧ w' = w := Any.bits_Len layLen x w h0 h1
end Go.Proofs.YtocaabnbmcpjmaaGreat
/- Circuits and tasks: whether they may be. -/
namespace Go.Proofs.YtocaabnbmcpjmaaGreat
open Go.RowKit
attribute [local irreducible] Go.Calls Go.Exit.then Go.Exit.inBlock Go.bodyPost Go.Code.wp Go.wpList
/-- A circuit. -/
structure Ci where
  kd : Int
  fl : Int
  bt : Int
  ln : Int
  wt : Int
  ch : Int
  hk : 0 ≤ kd ∧ kd ≤ 255
  hf : 0 ≤ fl ∧ fl ≤ 255
  hb : -9223372036854775808 ≤ bt ∧ bt ≤ 9223372036854775807
  hl : -9223372036854775808 ≤ ln ∧ ln ≤ 9223372036854775807
  hw : -9223372036854775808 ≤ wt ∧ wt ≤ 9223372036854775807
  hc : -9223372036854775808 ≤ ch ∧ ch ≤ 9223372036854775807
def cCells (kd fl bt ln wt ch : Int) : List Value := [.int .u8 kd, .int .u8 fl, .int .i64 bt, .int .i64 ln, .int .i64 wt, .int .i64 ch]
def Ci.cells (c : Ci) : List Value := [.int .u8 c.kd, .int .u8 c.fl, .int .i64 c.bt, .int .i64 c.ln, .int .i64 c.wt, .int .i64 c.ch]
def Ci.v (c : Ci) : Value := .agg c.cells.toArray
theorem nth_Ca {φ : Prop} (h : φ := by (first | rfl | rfl)) : φ := h
theorem mid_Ca {φ : Prop} (h : φ := by (first | exact Mid.all | exact Mid.all | exact Mid.head)) : φ := h
theorem sz_Ca {φ : Prop} (h : φ := by (first | rfl | (rfl; first | done | fail))) : φ := h
theorem one_Ca {φ : Prop} (h : φ := by (first | assumption | exact one_bytes _ | (simp only [List.mem_cons, List.not_mem_nil, or_false, forall_eq_or_imp, forall_eq]; decide) | exact one_bytes _ | (intro v hv; (repeat (rcases List.mem_cons.1 hv with rfl | hv; rfl)); cases hv))) : φ := h
theorem set_Ca {φ : Prop} (h : φ := by (first | (fail) | ((repeat (first | exact SetAt.here | apply SetAt.there)); first | done | fail))) : φ := h
theorem cl_Ca {φ : Prop} (h : φ := by first | rfl | exact .t | exact .f | exact .t (by omega) | exact .f (by omega) | exact .u | exact .i (by (first | exact .t (by omega) | exact .f (by omega) | exact .u | exact .i (by omega) | exact .v (by omega) | exact .b (by omega) | exact .w | rfl | omega)) | exact .v (by omega) | exact .b (by omega) | exact .q (by omega) | exact .w | exact .b (by exact at_) rfl (by exact nth_Ca) | exact .w (by exact at_) rfl rfl (by exact sz_Ca) | exact .s (by exact at_) (by exact mid_Ca) rfl rfl (by exact sz_Ca) | exact .z rfl rfl ⟨by kernel_rfl⟩ | exact .b rfl rfl ⟨by kernel_rfl⟩ | exact .a rfl rfl ⟨by kernel_rfl⟩ | exact .o rfl | exact .s | exact .n | exact .p rfl | exact .q rfl | exact .c rfl | exact .d rfl | exact .n rfl rfl (by omega) | exact .a rfl rfl (by omega) | exact .p rfl rfl (by omega) (by omega) | exact .y rfl rfl (by omega) (by omega) | exact .o (by exact at_) (by omega) rfl (by exact nth_Ca) | exact .m (by exact at_) (by omega) (by exact mid_Ca) rfl rfl (by exact sz_Ca) | exact .mlen (by exact at_) rfl | exact .t (by exact at_) rfl rfl (by first | exact True.intro | rfl) (by assumption) | exact .f (by exact at_) rfl rfl (by first | exact True.intro | rfl) (by assumption) rfl | exact .t1 (by exact at_) rfl rfl (by first | exact True.intro | rfl) (by assumption) | exact .f1 (by exact at_) rfl rfl (by first | exact True.intro | rfl) (by assumption) rfl | exact .r rfl rfl (by omega) (by omega) (by exact nth_Ca) rfl | exact .s rfl (by omega) (by assumption) | exact at_ | assumption | exact .r rfl rfl | exact .h rfl rfl rfl (by omega) | exact .l rfl rfl rfl (by omega) (by omega) | exact .g rfl rfl rfl rfl (by omega) (by omega) | exact .h rfl rfl (toN_ (by omega)) (by omega) | exact .l rfl rfl (toN_ (by omega)) (by omega) (by omega) | exact .g rfl rfl (toN_ (by omega)) (toN_ (by omega)) (by omega) (by omega) | exact .o (by decide) | exact .f (by decide) | exact .n (by omega) (by first | decide | (show _ ≤ ((64 : Nat) : Int); omega)) | (constructor; (repeat (first | exact .t (by omega) | exact .f (by omega) | exact .u | exact .i (by omega) | exact .v (by omega) | exact .b (by omega) | exact .w | rfl | omega)); first | done | fail) | omega | (show _ ≤ ((64 : Nat) : Int); omega)) : φ := h
theorem pv_Ca {φ : Prop} (h : φ := by constructor; (repeat exact cl_Ca); first | done | fail) : φ := h
theorem su_Ca {φ ψ : Prop} (k : ψ) (h : Hide ψ → φ := by (intro k; (first | refine sl_pu (PuI.sep (by exact pv_Ca)) rfl ?_ | refine sl_yes rfl rfl ?_ | refine sl_no rfl rfl rfl ?_ | refine sl_off rfl rfl rfl ?_ | (fail)); exact k.out)) : φ := h ⟨k⟩
theorem sto_Ca {φ ψ : Prop} (k : ψ) (h : Hide ψ → φ := by (intro k; (first | refine sl_store rfl (by exact pick_) rfl rfl (by kernel_rfl) (by exact set_Ca) ?_ | refine sl_store_whole rfl (by exact pick_) rfl (by exact sz_Ca) (by exact sz_Ca) (by exact one_Ca) ?_); exact k.out)) : φ := h ⟨k⟩
theorem go_Ca {φ ψ : Prop} (k : ψ) (h : Hide ψ → φ := by (intro k; (repeat (first | refine su_Ca ?_ | refine so_ ?_ | refine sto_Ca ?_)); exact k.out)) : φ := h ⟨k⟩
set_option maxRecDepth 100000 in
theorem valid_ok {K : List Fa} (f : Int) : Fn Tryz.prog 133 #[.int .u8 f] K (Ret (fun _ : Unit => True) (fun _ => .bool (decide (f = 1 ∨ f = 2))) (fun _ => K)) := by
  refine fn_enter Tryz.func133 rfl _ Tryz.ntmps133 (by simp) [(0, .int .u8 f)] (args_of (by simp)) ?_
  by_cases h1 : f = 1
  · subst h1
    refine go_Ca ?_
    exact se_ret1 () trivial rfl rfl (by exact sub_)
  · by_cases h2 : f = 2
    · subst h2
      refine go_Ca ?_
      exact se_ret1 () trivial rfl rfl (by exact sub_)
    · have e : decide (f = 1 ∨ f = 2) = false := by simp [h1, h2]
      rw [e]
      refine go_Ca ?_
      exact se_ret1 () trivial rfl rfl (by exact sub_)
def wi (n m : Int) (u : Bool) : Bool := if u then decide (1 ≤ n ∧ n ≤ m) else decide (n = 0)
set_option maxRecDepth 100000 in
theorem cwithin_ok {K : List Fa} (n m : Int) (u : Bool) : Fn Tryz.prog 134 #[.int .i64 n, .int .i64 m, .bool u] K (Ret (fun _ : Unit => True) (fun _ => .bool (wi n m u)) (fun _ => K)) := by
  refine fn_enter Tryz.func134 rfl _ Tryz.ntmps134 (by simp) [(0, .int .i64 n), (1, .int .i64 m), (2, .bool u)] (args_of (by simp)) ?_
  cases u with
  | false =>
    rw [show wi n m false = decide (n = 0) from rfl]
    refine go_Ca ?_
    exact se_ret1 () trivial rfl rfl (by exact sub_)
  | true =>
    by_cases h1 : 1 ≤ n
    · rw [show wi n m true = decide (n ≤ m) by simp [wi, h1]]
      refine go_Ca ?_
      exact se_ret1 () trivial rfl rfl (by exact sub_)
    · rw [show wi n m true = false by simp [wi, h1]]
      refine go_Ca ?_
      exact se_ret1 () trivial rfl rfl (by exact sub_)
set_option maxRecDepth 100000 in
theorem wbits_ok {K : List Fa} (kd fl bt ln wt ch : Int) (h : wt ≤ 9223372036854775807) : Fn Tryz.prog 200 #[.agg (cCells kd fl bt ln wt ch).toArray] K (Ret (fun _ : Unit => True) (fun _ => .int .i64 (Lib.bitLen (max wt 0).toNat)) (fun _ => K)) := by
  refine fn_enter Tryz.func200 rfl _ Tryz.ntmps200 (by simp) [(0, .agg (cCells kd fl bt ln wt ch).toArray)] (args_of (by simp)) ?_
  refine go_Ca ?_
  refine sl_box rfl rfl rfl ?_; intro g1
  refine go_Ca ?_
  refine sl_call rfl rfl (by kernel_rfl) rfl Sub.refl (fn_eq (len_c _ (by omega) (by omega))) ?_
  rintro _ -
  rw [show (if wt < 0 then 0 else wt) = max wt 0 by omega]
  refine go_Ca ?_
  exact se_ret1 () trivial rfl rfl (by exact sub_)
/-- How many elements a vector has. -/
def inN (kd bt ln wt : Int) : Int := if kd = 1 then 1 else if kd = 2 then bt else if kd = 3 then ln * bt else if kd = 4 then ln else if kd = 5 then ln + Lib.bitLen wt.toNat else 0
theorem bl_le {wt : Int} (h0 : 0 ≤ wt) (h1 : wt ≤ 64) : (Lib.bitLen (max wt 0).toNat : Int) ≤ 8 ∧ max wt 0 = wt := by
  have h := Lib.bitLen_le8 ⟨(max wt 0).toNat, by omega⟩
  have h' : Lib.bitLen (max wt 0).toNat ≤ 8 := h
  exact ⟨by omega, by omega⟩
theorem mul_le {a b m n : Int} (h0 : 0 ≤ a) (h1 : a ≤ m) (h2 : 0 ≤ b) (h3 : b ≤ n) : 0 ≤ a * b ∧ a * b ≤ m * n :=
  ⟨Int.mul_nonneg h0 h2, Int.mul_le_mul h1 h3 h2 (by omega)⟩
set_option maxRecDepth 100000 in
set_option maxHeartbeats 2000000 in
theorem in_ok {K : List Fa} {kd fl bt ln wt ch : Int} (hb : 0 ≤ bt ∧ bt ≤ 32) (hl : 0 ≤ ln ∧ ln ≤ 64) (hw : 0 ≤ wt ∧ wt ≤ 64) :
    Fn Tryz.prog 160 #[.agg (cCells kd fl bt ln wt ch).toArray] K (Ret (fun _ : Unit => True) (fun _ => .int .i64 (inN kd bt ln wt)) (fun _ => K)) := by
  refine fn_enter Tryz.func160 rfl _ Tryz.ntmps160 (by simp) [(0, .agg (cCells kd fl bt ln wt ch).toArray)] (args_of (by simp)) ?_
  refine go_Ca ?_
  refine sl_box rfl rfl rfl ?_; intro g1
  by_cases h1 : kd = 1
  · subst h1
    refine go_Ca ?_
    exact se_ret1 () trivial rfl rfl (by exact sub_)
  by_cases h2 : kd = 2
  · subst h2
    rw [show inN 2 bt ln wt = bt by simp [inN]]
    refine go_Ca ?_
    exact se_ret1 () trivial rfl rfl (by exact sub_)
  by_cases h3 : kd = 3
  · subst h3
    have hm := mul_le hl.1 hl.2 hb.1 hb.2
    rw [show inN 3 bt ln wt = ln * bt by simp [inN]]
    refine go_Ca ?_
    exact se_ret1 () trivial rfl rfl (by exact sub_)
  by_cases h4 : kd = 4
  · subst h4
    rw [show inN 4 bt ln wt = ln by simp [inN]]
    refine go_Ca ?_
    exact se_ret1 () trivial rfl rfl (by exact sub_)
  by_cases h5 : kd = 5
  · subst h5
    have hbl := bl_le hw.1 hw.2
    rw [show inN 5 bt ln wt = ln + Lib.bitLen (max wt 0).toNat by rw [hbl.2]; simp [inN]]
    refine go_Ca ?_
    refine sd_drawn (fun W => AllP W [blk g1 32 (cCells 5 fl bt ln wt ch)]) (fun _ => true) (by kernel_rfl) 6 rfl ?_
    refine sd_yes2 0 rfl (by exact gd_) (by kernel_rfl) (by kernel_rfl) (by exact nop_) (PuI.all (by exact pv_Ca)) rfl (fun w hw => all_ hw) ?_
    refine sd_yes2 1 rfl (by exact gd_) (by kernel_rfl) (by kernel_rfl) (by exact nop_) (PuI.all (by exact pv_Ca)) rfl (fun w hw => all_ hw) ?_
    refine sd_yes2 2 rfl (by exact gd_) (by kernel_rfl) (by kernel_rfl) (by exact nop_) (PuI.all (by exact pv_Ca)) rfl (fun w hw => all_ hw) ?_
    refine sd_one 3 (by kernel_rfl) (sa_sl 3 rfl ?_)
    refine sl_call rfl rfl (by kernel_rfl) rfl (by exact sub_) (wbits_ok 5 fl bt ln wt ch (by omega)) ?_
    rintro _ -
    refine sl_nil ?_
    refine se_sd (fun _ w hw => all_ hw) ?_
    refine sd_yes2 4 rfl (by exact gd_) (by kernel_rfl) (by kernel_rfl) (by exact nop_) (PuI.all (by exact pv_Ca)) rfl (fun w hw => all_ hw) ?_
    refine sd_yes2 5 rfl (by exact gd_) (by kernel_rfl) (by kernel_rfl) (by exact nop_) (PuI.all (by exact pv_Ca)) rfl (fun w hw => all_ hw) ?_
    refine sd_done (by kernel_rfl) ?_
    refine go_Ca ?_
    exact se_ret1 () trivial rfl rfl (by exact sub_)
  · rw [show inN kd bt ln wt = 0 by simp [inN, h1, h2, h3, h4, h5]]
    refine go_Ca ?_
    exact se_ret1 () trivial rfl rfl (by exact sub_)
theorem inN_le {kd bt ln wt : Int} (hb : 0 ≤ bt ∧ bt ≤ 32) (hl : 0 ≤ ln ∧ ln ≤ 64) (hw : 0 ≤ wt ∧ wt ≤ 64) : 0 ≤ inN kd bt ln wt ∧ inN kd bt ln wt ≤ 2048 := by
  have hm := mul_le hl.1 hl.2 hb.1 hb.2
  have hbl := bl_le hw.1 hw.2
  rw [hbl.2] at hbl
  unfold inN
  split
  · omega
  split
  · omega
  split
  · omega
  split
  · omega
  split
  · omega
  · omega
/-- How often the gadget is called. -/
def callsN (kd bt ln wt ch : Int) : Int := if kd = 1 then 1 else if kd = 2 then bt else if kd = 3 ∨ kd = 4 ∨ kd = 5 then (if 0 < ch then (inN kd bt ln wt + ch - 1) / ch else 0) else 0
theorem quo_le {p q : Int} (h : 0 ≤ p) (hq : 0 < q) : 0 ≤ p / q ∧ p / q ≤ p := ⟨Int.ediv_nonneg h (by omega), Int.ediv_le_self _ h⟩
set_option maxRecDepth 100000 in
set_option maxHeartbeats 2000000 in
theorem calls_ok {K : List Fa} {kd fl bt ln wt ch : Int} (hb : 0 ≤ bt ∧ bt ≤ 32) (hl : 0 ≤ ln ∧ ln ≤ 64) (hw : 0 ≤ wt ∧ wt ≤ 64) (hc : ch ≤ 16) :
    Fn Tryz.prog 135 #[.agg (cCells kd fl bt ln wt ch).toArray] K (Ret (fun _ : Unit => True) (fun _ => .int .i64 (callsN kd bt ln wt ch)) (fun _ => K)) := by
  refine fn_enter Tryz.func135 rfl _ Tryz.ntmps135 (by simp) [(0, .agg (cCells kd fl bt ln wt ch).toArray)] (args_of (by simp)) ?_
  have hin := inN_le (kd := kd) hb hl hw
  refine go_Ca ?_
  refine sl_box rfl rfl rfl ?_; intro g1
  by_cases h1 : kd = 1
  · subst h1
    refine go_Ca ?_
    exact se_ret1 () trivial rfl rfl (by exact sub_)
  by_cases h2 : kd = 2
  · subst h2
    rw [show callsN 2 bt ln wt ch = bt by simp [callsN]]
    refine go_Ca ?_
    exact se_ret1 () trivial rfl rfl (by exact sub_)
  by_cases h0 : 0 < ch
  · have hq := quo_le (p := inN kd bt ln wt + ch - 1) (q := ch) (by omega) h0
    by_cases h3 : kd = 3
    · subst h3
      rw [show callsN 3 bt ln wt ch = (inN 3 bt ln wt + ch - 1) / ch by simp [callsN, h0]]
      generalize hi : inN 3 bt ln wt = m at hin hq ⊢
      refine go_Ca ?_
      refine sd_drawn (fun W => AllP W [blk g1 32 (cCells 3 fl bt ln wt ch)]) (fun _ => true) (by kernel_rfl) 10 rfl ?_
      refine sd_yes2 0 rfl (by exact gd_) (by kernel_rfl) (by kernel_rfl) (by exact nop_) (PuI.all (by exact pv_Ca)) rfl (fun w hw => all_ hw) ?_
      refine sd_yes2 2 rfl (by exact gd_) (by kernel_rfl) (by kernel_rfl) (by exact nop_) (PuI.all (by exact pv_Ca)) rfl (fun w hw => all_ hw) ?_
      refine sd_yes2 3 rfl (by exact gd_) (by kernel_rfl) (by kernel_rfl) (by exact nop_) (PuI.all (by exact pv_Ca)) rfl (fun w hw => all_ hw) ?_
      refine sd_yes2 6 rfl (by exact gd_) (by kernel_rfl) (by kernel_rfl) (by exact nop_) (PuI.all (by exact pv_Ca)) rfl (fun w hw => all_ hw) ?_
      refine sd_yes2 7 rfl (by exact gd_) (by kernel_rfl) (by kernel_rfl) (by exact nop_) (PuI.all (by exact pv_Ca)) rfl (fun w hw => all_ hw) ?_
      refine sd_one 1 (by kernel_rfl) (sa_sl 1 rfl ?_)
      refine sl_call rfl rfl (by kernel_rfl) rfl (by exact sub_) (in_ok hb hl hw) ?_
      rintro _ -
      rw [hi]
      refine sl_nil ?_
      refine se_sd (fun _ w hw => all_ hw) ?_
      refine sd_yes2 4 rfl (by exact gd_) (by kernel_rfl) (by kernel_rfl) (by exact nop_) (PuI.all (by exact pv_Ca)) rfl (fun w hw => all_ hw) ?_
      refine sd_yes2 5 rfl (by exact gd_) (by kernel_rfl) (by kernel_rfl) (by exact nop_) (PuI.all (by exact pv_Ca)) rfl (fun w hw => all_ hw) ?_
      refine sd_yes2 8 rfl (by exact gd_) (by kernel_rfl) (by kernel_rfl) (by exact nop_) (PuI.all (by exact pv_Ca)) rfl (fun w hw => all_ hw) ?_
      refine sd_yes2 9 rfl (by exact gd_) (by kernel_rfl) (by kernel_rfl) (by exact nop_) (PuI.all (by exact pv_Ca)) rfl (fun w hw => all_ hw) ?_
      refine sd_done (by kernel_rfl) ?_
      refine go_Ca ?_
      exact se_ret1 () trivial rfl rfl (by exact sub_)
    by_cases h4 : kd = 4
    · subst h4
      rw [show callsN 4 bt ln wt ch = (inN 4 bt ln wt + ch - 1) / ch by simp [callsN, h0]]
      generalize hi : inN 4 bt ln wt = m at hin hq ⊢
      refine go_Ca ?_
      refine sd_drawn (fun W => AllP W [blk g1 32 (cCells 4 fl bt ln wt ch)]) (fun _ => true) (by kernel_rfl) 10 rfl ?_
      refine sd_yes2 0 rfl (by exact gd_) (by kernel_rfl) (by kernel_rfl) (by exact nop_) (PuI.all (by exact pv_Ca)) rfl (fun w hw => all_ hw) ?_
      refine sd_yes2 2 rfl (by exact gd_) (by kernel_rfl) (by kernel_rfl) (by exact nop_) (PuI.all (by exact pv_Ca)) rfl (fun w hw => all_ hw) ?_
      refine sd_yes2 3 rfl (by exact gd_) (by kernel_rfl) (by kernel_rfl) (by exact nop_) (PuI.all (by exact pv_Ca)) rfl (fun w hw => all_ hw) ?_
      refine sd_yes2 6 rfl (by exact gd_) (by kernel_rfl) (by kernel_rfl) (by exact nop_) (PuI.all (by exact pv_Ca)) rfl (fun w hw => all_ hw) ?_
      refine sd_yes2 7 rfl (by exact gd_) (by kernel_rfl) (by kernel_rfl) (by exact nop_) (PuI.all (by exact pv_Ca)) rfl (fun w hw => all_ hw) ?_
      refine sd_one 1 (by kernel_rfl) (sa_sl 1 rfl ?_)
      refine sl_call rfl rfl (by kernel_rfl) rfl (by exact sub_) (in_ok hb hl hw) ?_
      rintro _ -
      rw [hi]
      refine sl_nil ?_
      refine se_sd (fun _ w hw => all_ hw) ?_
      refine sd_yes2 4 rfl (by exact gd_) (by kernel_rfl) (by kernel_rfl) (by exact nop_) (PuI.all (by exact pv_Ca)) rfl (fun w hw => all_ hw) ?_
      refine sd_yes2 5 rfl (by exact gd_) (by kernel_rfl) (by kernel_rfl) (by exact nop_) (PuI.all (by exact pv_Ca)) rfl (fun w hw => all_ hw) ?_
      refine sd_yes2 8 rfl (by exact gd_) (by kernel_rfl) (by kernel_rfl) (by exact nop_) (PuI.all (by exact pv_Ca)) rfl (fun w hw => all_ hw) ?_
      refine sd_yes2 9 rfl (by exact gd_) (by kernel_rfl) (by kernel_rfl) (by exact nop_) (PuI.all (by exact pv_Ca)) rfl (fun w hw => all_ hw) ?_
      refine sd_done (by kernel_rfl) ?_
      refine go_Ca ?_
      exact se_ret1 () trivial rfl rfl (by exact sub_)
    by_cases h5 : kd = 5
    · subst h5
      rw [show callsN 5 bt ln wt ch = (inN 5 bt ln wt + ch - 1) / ch by simp [callsN, h0]]
      generalize hi : inN 5 bt ln wt = m at hin hq ⊢
      refine go_Ca ?_
      refine sd_drawn (fun W => AllP W [blk g1 32 (cCells 5 fl bt ln wt ch)]) (fun _ => true) (by kernel_rfl) 10 rfl ?_
      refine sd_yes2 0 rfl (by exact gd_) (by kernel_rfl) (by kernel_rfl) (by exact nop_) (PuI.all (by exact pv_Ca)) rfl (fun w hw => all_ hw) ?_
      refine sd_yes2 2 rfl (by exact gd_) (by kernel_rfl) (by kernel_rfl) (by exact nop_) (PuI.all (by exact pv_Ca)) rfl (fun w hw => all_ hw) ?_
      refine sd_yes2 3 rfl (by exact gd_) (by kernel_rfl) (by kernel_rfl) (by exact nop_) (PuI.all (by exact pv_Ca)) rfl (fun w hw => all_ hw) ?_
      refine sd_yes2 6 rfl (by exact gd_) (by kernel_rfl) (by kernel_rfl) (by exact nop_) (PuI.all (by exact pv_Ca)) rfl (fun w hw => all_ hw) ?_
      refine sd_yes2 7 rfl (by exact gd_) (by kernel_rfl) (by kernel_rfl) (by exact nop_) (PuI.all (by exact pv_Ca)) rfl (fun w hw => all_ hw) ?_
      refine sd_one 1 (by kernel_rfl) (sa_sl 1 rfl ?_)
      refine sl_call rfl rfl (by kernel_rfl) rfl (by exact sub_) (in_ok hb hl hw) ?_
      rintro _ -
      rw [hi]
      refine sl_nil ?_
      refine se_sd (fun _ w hw => all_ hw) ?_
      refine sd_yes2 4 rfl (by exact gd_) (by kernel_rfl) (by kernel_rfl) (by exact nop_) (PuI.all (by exact pv_Ca)) rfl (fun w hw => all_ hw) ?_
      refine sd_yes2 5 rfl (by exact gd_) (by kernel_rfl) (by kernel_rfl) (by exact nop_) (PuI.all (by exact pv_Ca)) rfl (fun w hw => all_ hw) ?_
      refine sd_yes2 8 rfl (by exact gd_) (by kernel_rfl) (by kernel_rfl) (by exact nop_) (PuI.all (by exact pv_Ca)) rfl (fun w hw => all_ hw) ?_
      refine sd_yes2 9 rfl (by exact gd_) (by kernel_rfl) (by kernel_rfl) (by exact nop_) (PuI.all (by exact pv_Ca)) rfl (fun w hw => all_ hw) ?_
      refine sd_done (by kernel_rfl) ?_
      refine go_Ca ?_
      exact se_ret1 () trivial rfl rfl (by exact sub_)
    · rw [show callsN kd bt ln wt ch = 0 by simp [callsN, h1, h2, h3, h4, h5]]
      refine go_Ca ?_
      exact se_ret1 () trivial rfl rfl (by exact sub_)
  · have e : callsN kd bt ln wt ch = 0 := by simp [callsN, h1, h2, h0]
    rw [e]
    by_cases h3 : kd = 3
    · subst h3
      refine go_Ca ?_
      exact se_ret1 () trivial rfl rfl (by exact sub_)
    by_cases h4 : kd = 4
    · subst h4
      refine go_Ca ?_
      exact se_ret1 () trivial rfl rfl (by exact sub_)
    by_cases h5 : kd = 5
    · subst h5
      refine go_Ca ?_
      exact se_ret1 () trivial rfl rfl (by exact sub_)
    · refine go_Ca ?_
      exact se_ret1 () trivial rfl rfl (by exact sub_)
end Go.Proofs.YtocaabnbmcpjmaaGreat
/- Circuits and tasks: Check. (Written by wip/tools/mkcb.py.) -/
namespace Go.Proofs.YtocaabnbmcpjmaaGreat
open Go.RowKit
attribute [local irreducible] Go.Calls Go.Exit.then Go.Exit.inBlock Go.bodyPost Go.Code.wp Go.wpList
def uB (kd : Int) : Bool := decide (kd = 2 ∨ kd = 3)
def uL (kd : Int) : Bool := decide (kd = 3 ∨ kd = 4 ∨ kd = 5)
def uW (kd : Int) : Bool := decide (kd = 5)
/-- Are a circuit's numbers within their ends? -/
def ciIn (kd bt ln wt ch : Int) : Bool := wi bt 32 (uB kd) && wi ln 64 (uL kd) && wi wt ln (uW kd) && wi ch 16 (uL kd)
/-- May it be a circuit? -/
def ciErr (kd fl bt ln wt ch : Int) : Int := if ¬ (fl = 1 ∨ fl = 2) then 7 else if kd < 1 ∨ 5 < kd then 10 else if ciIn kd bt ln wt ch = false then 6 else if 511 < callsN kd bt ln wt ch then 5 else 0
theorem wi_le {n m : Int} {u : Bool} (h : wi n m u = true) (hm : 0 ≤ m) : 0 ≤ n ∧ n ≤ m := by
  cases u <;> simp [wi] at h <;> omega
theorem ci_le {kd bt ln wt ch : Int} (h : ciIn kd bt ln wt ch = true) : (0 ≤ bt ∧ bt ≤ 32) ∧ (0 ≤ ln ∧ ln ≤ 64) ∧ (0 ≤ wt ∧ wt ≤ 64) ∧ 0 ≤ ch ∧ ch ≤ 16 := by
  simp only [ciIn, Bool.and_eq_true] at h
  obtain ⟨⟨⟨h1, h2⟩, h3⟩, h4⟩ := h
  have e1 := wi_le h1 (by decide)
  have e2 := wi_le h2 (by decide)
  have e3 := wi_le h3 (by omega)
  have e4 := wi_le h4 (by decide)
  exact ⟨e1, e2, ⟨e3.1, by omega⟩, e4⟩
theorem mid4 {cs : List Value} {i : Nat} {a b c d : Value} (h0 : cs[i]? = some a) (h1 : cs[i + 1]? = some b) (h2 : cs[i + 2]? = some c) (h3 : cs[i + 3]? = some d) : Mid cs i [a, b, c, d] := by
  intro j v hj
  match j with
  | 0 => exact h0.trans hj
  | 1 => exact h1.trans hj
  | 2 => exact h2.trans hj
  | 3 => exact h3.trans hj
  | j + 4 => simp at hj
def usesL : List Value := [.bool false, .bool false, .bool false, .bool false, .bool false, .bool false, .bool false, .bool false, .bool true, .bool false, .bool false, .bool false, .bool true, .bool true, .bool false, .bool true, .bool false, .bool true, .bool false, .bool true, .bool false, .bool true, .bool true, .bool true]
theorem uses_mid {kd : Int} (h1 : 1 ≤ kd) (h5 : kd ≤ 5) : Mid usesL (0 + kd.toNat * 4) [.bool (uB kd), .bool (uL kd), .bool (uW kd), .bool (uL kd)] := by
  rcases (show kd = 1 ∨ kd = 2 ∨ kd = 3 ∨ kd = 4 ∨ kd = 5 by omega) with rfl | rfl | rfl | rfl | rfl <;> exact mid4 rfl rfl rfl rfl
theorem one4 (a b c d : Bool) : ∀ v ∈ [Value.bool a, .bool b, .bool c, .bool d], v.oneCell' = true := by
  intro v hv
  simp only [List.mem_cons, List.not_mem_nil, or_false] at hv
  rcases hv with rfl | rfl | rfl | rfl <;> rfl
theorem nth_Cb {φ : Prop} (h : φ := by (first | rfl | rfl)) : φ := h
theorem mid_Cb {φ : Prop} (h : φ := by (first | exact Mid.all | exact Mid.all | exact Mid.head)) : φ := h
theorem sz_Cb {φ : Prop} (h : φ := by (first | rfl | (rfl; first | done | fail))) : φ := h
theorem one_Cb {φ : Prop} (h : φ := by (first | assumption | exact one4 _ _ _ _ | (simp only [List.mem_cons, List.not_mem_nil, or_false, forall_eq_or_imp, forall_eq]; decide) | exact one_bytes _ | (intro v hv; (repeat (rcases List.mem_cons.1 hv with rfl | hv; rfl)); cases hv))) : φ := h
theorem set_Cb {φ : Prop} (h : φ := by (first | (fail) | ((repeat (first | exact SetAt.here | apply SetAt.there)); first | done | fail))) : φ := h
theorem cl_Cb {φ : Prop} (h : φ := by first | rfl | exact .t | exact .f | exact .t (by omega) | exact .f (by omega) | exact .u | exact .i (by (first | exact .t (by omega) | exact .f (by omega) | exact .u | exact .i (by omega) | exact .v (by omega) | exact .b (by omega) | exact .w | rfl | omega)) | exact .v (by omega) | exact .b (by omega) | exact .q (by omega) | exact .w | exact .b (by exact at_) rfl (by exact nth_Cb) | exact .w (by exact at_) rfl rfl (by exact sz_Cb) | exact .s (by exact at_) (by exact mid_Cb) rfl rfl (by exact sz_Cb) | exact .z rfl rfl ⟨by kernel_rfl⟩ | exact .b rfl rfl ⟨by kernel_rfl⟩ | exact .a rfl rfl ⟨by kernel_rfl⟩ | exact .o rfl | exact .s | exact .n | exact .p rfl | exact .q rfl | exact .c rfl | exact .d rfl | exact .n rfl rfl (by omega) | exact .a rfl rfl (by omega) | exact .p rfl rfl (by omega) (by omega) | exact .y rfl rfl (by omega) (by omega) | exact .o (by exact at_) (by omega) rfl (by exact nth_Cb) | exact .m (by exact at_) (by omega) (by exact mid_Cb) rfl rfl (by exact sz_Cb) | exact .mlen (by exact at_) rfl | exact .t (by exact at_) rfl rfl (by first | exact True.intro | rfl) (by assumption) | exact .f (by exact at_) rfl rfl (by first | exact True.intro | rfl) (by assumption) rfl | exact .t1 (by exact at_) rfl rfl (by first | exact True.intro | rfl) (by assumption) | exact .f1 (by exact at_) rfl rfl (by first | exact True.intro | rfl) (by assumption) rfl | exact .r rfl rfl (by omega) (by omega) (by exact nth_Cb) rfl | exact .s rfl (by omega) (by assumption) | exact at_ | assumption | exact .r rfl rfl | exact .h rfl rfl rfl (by omega) | exact .l rfl rfl rfl (by omega) (by omega) | exact .g rfl rfl rfl rfl (by omega) (by omega) | exact .h rfl rfl (toN_ (by omega)) (by omega) | exact .l rfl rfl (toN_ (by omega)) (by omega) (by omega) | exact .g rfl rfl (toN_ (by omega)) (toN_ (by omega)) (by omega) (by omega) | exact .o (by decide) | exact .f (by decide) | exact .n (by omega) (by first | decide | (show _ ≤ ((64 : Nat) : Int); omega)) | (constructor; (repeat (first | exact .t (by omega) | exact .f (by omega) | exact .u | exact .i (by omega) | exact .v (by omega) | exact .b (by omega) | exact .w | rfl | omega)); first | done | fail) | omega | (show _ ≤ ((64 : Nat) : Int); omega)) : φ := h
theorem pv_Cb {φ : Prop} (h : φ := by constructor; (repeat exact cl_Cb); first | done | fail) : φ := h
theorem su_Cb {φ ψ : Prop} (k : ψ) (h : Hide ψ → φ := by (intro k; (first | refine sl_pu (PuI.sep (by exact pv_Cb)) rfl ?_ | refine sl_yes rfl rfl ?_ | refine sl_no rfl rfl rfl ?_ | refine sl_off rfl rfl rfl ?_ | (fail)); exact k.out)) : φ := h ⟨k⟩
theorem sto_Cb {φ ψ : Prop} (k : ψ) (h : Hide ψ → φ := by (intro k; (first | refine sl_store rfl (by exact pick_) rfl rfl (by kernel_rfl) (by exact set_Cb) ?_ | refine sl_store_whole rfl (by exact pick_) rfl (by exact sz_Cb) (by exact sz_Cb) (by exact one_Cb) ?_); exact k.out)) : φ := h ⟨k⟩
theorem go_Cb {φ ψ : Prop} (k : ψ) (h : Hide ψ → φ := by (intro k; (repeat (first | refine su_Cb ?_ | refine so_ ?_ | refine sto_Cb ?_)); exact k.out)) : φ := h ⟨k⟩
set_option maxRecDepth 100000 in
set_option maxHeartbeats 8000000 in
theorem ccheck_ok {K : List Fa} (kd fl bt ln wt ch : Int) :
    Fn Tryz.prog 103 #[.agg (cCells kd fl bt ln wt ch).toArray] K (Ret (fun _ : Unit => True) (fun _ => .int .i64 (ciErr kd fl bt ln wt ch)) (fun _ => K)) := by
  refine fn_enter Tryz.func103 rfl _ Tryz.ntmps103 (by simp) [(0, .agg (cCells kd fl bt ln wt ch).toArray)] (args_of (by simp)) ?_
  refine go_Cb ?_
  refine sl_box rfl rfl rfl ?_; intro g1
  refine go_Cb ?_
  refine sl_call rfl rfl (by kernel_rfl) rfl (by exact sub_) (valid_ok fl) ?_; rintro _ -
  by_cases hf : fl = 1 ∨ fl = 2
  case neg =>
    rw [decide_eq_false hf, show ciErr kd fl bt ln wt ch = 7 by simp [ciErr, hf]]
    refine go_Cb ?_
    exact se_ret1 () trivial rfl rfl (by exact sub_)
  rw [decide_eq_true hf]
  by_cases hk1 : kd < 1
  · rw [show ciErr kd fl bt ln wt ch = 10 by simp [ciErr, hf, hk1]]
    refine go_Cb ?_
    exact se_ret1 () trivial rfl rfl (by exact sub_)
  by_cases hk5 : 5 < kd
  · rw [show ciErr kd fl bt ln wt ch = 10 by simp [ciErr, hf, hk5]]
    refine go_Cb ?_
    exact se_ret1 () trivial rfl rfl (by exact sub_)
  have he : ciErr kd fl bt ln wt ch = if ciIn kd bt ln wt ch = false then 6 else if 511 < callsN kd bt ln wt ch then 5 else 0 := by simp only [ciErr, hf, hk1, hk5]; simp
  rw [he]

  refine go_Cb ?_
  refine sl_pu (pu_build (v := .agg #[.bool true, .bool false, .bool false, .bool false]) rfl (fun W => by kernel_rfl)) rfl ?_
  refine sl_pu (pu_build (v := .agg #[.bool true, .bool true, .bool false, .bool true]) rfl (fun W => by kernel_rfl)) rfl ?_
  refine sl_pu (pu_build (v := .agg #[.bool false, .bool true, .bool false, .bool true]) rfl (fun W => by kernel_rfl)) rfl ?_
  refine sl_pu (pu_build (v := .agg #[.bool false, .bool true, .bool true, .bool true]) rfl (fun W => by kernel_rfl)) rfl ?_
  refine sl_pu (pu_build (v := .agg #[.bool false, .bool false, .bool false, .bool false, .bool false, .bool false, .bool false, .bool false, .bool true, .bool false, .bool false, .bool false, .bool true, .bool true, .bool false, .bool true, .bool false, .bool true, .bool false, .bool true, .bool false, .bool true, .bool true, .bool true]) rfl (fun W => by kernel_rfl)) rfl ?_
  refine sl_alloc rfl rfl rfl ?_; intro g2
  refine go_Cb ?_
  refine sl_pu (pu_lds (cl := [.bool (uB kd), .bool (uL kd), .bool (uW kd), .bool (uL kd)]) (by exact at_) rfl (uses_mid (by omega) (by omega)) rfl rfl rfl) rfl ?_
  generalize hub : uB kd = ub
  generalize hul : uL kd = ul
  generalize huw : uW kd = uw
  refine sl_alloc rfl rfl rfl ?_; intro g3
  refine go_Cb ?_
  refine sl_call rfl rfl (by kernel_rfl) rfl (by exact sub_) (cwithin_ok bt 32 (ub)) ?_; rintro _ -
  cases w0 : wi bt 32 (ub) with
  | false =>
    rw [show ciIn kd bt ln wt ch = false by simp [ciIn, hub, hul, huw, w0], if_pos rfl]
    refine go_Cb ?_
    exact se_ret1 () trivial rfl rfl (by exact sub_)
  | true =>
  refine go_Cb ?_
  refine sl_call rfl rfl (by kernel_rfl) rfl (by exact sub_) (cwithin_ok ln 64 (ul)) ?_; rintro _ -
  cases w1 : wi ln 64 (ul) with
  | false =>
    rw [show ciIn kd bt ln wt ch = false by simp [ciIn, hub, hul, huw, w1], if_pos rfl]
    refine go_Cb ?_
    exact se_ret1 () trivial rfl rfl (by exact sub_)
  | true =>
  refine go_Cb ?_
  refine sl_call rfl rfl (by kernel_rfl) rfl (by exact sub_) (cwithin_ok wt ln (uw)) ?_; rintro _ -
  cases w2 : wi wt ln (uw) with
  | false =>
    rw [show ciIn kd bt ln wt ch = false by simp [ciIn, hub, hul, huw, w2], if_pos rfl]
    refine go_Cb ?_
    exact se_ret1 () trivial rfl rfl (by exact sub_)
  | true =>
  refine go_Cb ?_
  refine sl_call rfl rfl (by kernel_rfl) rfl (by exact sub_) (cwithin_ok ch 16 (ul)) ?_; rintro _ -
  cases w3 : wi ch 16 (ul) with
  | false =>
    rw [show ciIn kd bt ln wt ch = false by simp [ciIn, hub, hul, huw, w3], if_pos rfl]
    refine go_Cb ?_
    exact se_ret1 () trivial rfl rfl (by exact sub_)
  | true =>
  have hi : ciIn kd bt ln wt ch = true := by simp [ciIn, hub, hul, huw, w0, w1, w2, w3]
  obtain ⟨q1, q2, q3, q4⟩ := ci_le hi
  rw [hi, if_neg (by simp)]
  refine go_Cb ?_
  refine sl_call rfl rfl (by kernel_rfl) rfl (by exact sub_) (calls_ok q1 q2 q3 q4.2) ?_; rintro _ -
  by_cases hm : 511 < callsN kd bt ln wt ch
  · rw [if_pos hm]
    refine go_Cb ?_
    exact se_ret1 () trivial rfl rfl (by exact sub_)
  · rw [if_neg hm]
    refine go_Cb ?_
    exact se_ret1 () trivial rfl rfl (by exact sub_)
end Go.Proofs.YtocaabnbmcpjmaaGreat
/- Tasks: Check; Out; the small ones. -/
namespace Go.Proofs.YtocaabnbmcpjmaaGreat
open Go.RowKit
attribute [local irreducible] Go.Calls Go.Exit.then Go.Exit.inBlock Go.bodyPost Go.Code.wp Go.wpList
def tCells (kd fl bt ln wt ch np : Int) (tag : ByteArray) : List Value := cCells kd fl bt ln wt ch ++ [.int .i64 np, .string tag]
/-- May it be a task? -/
def tErr (kd fl bt ln wt ch np : Int) (tag : ByteArray) : Int := if ciErr kd fl bt ln wt ch ≠ 0 then ciErr kd fl bt ln wt ch else if np < 1 ∨ 3 < np ∨ 32 < (tag.size : Int) then 6 else 0
theorem nth_Cc {φ : Prop} (h : φ := by (first | rfl | rfl)) : φ := h
theorem mid_Cc {φ : Prop} (h : φ := by (first | first | exact Mid.head | exact Mid.all | exact Mid.all | exact Mid.head)) : φ := h
theorem sz_Cc {φ : Prop} (h : φ := by (first | rfl | (rfl; first | done | fail))) : φ := h
theorem one_Cc {φ : Prop} (h : φ := by (first | assumption | exact one_bytes _ | (simp only [List.mem_cons, List.not_mem_nil, or_false, forall_eq_or_imp, forall_eq]; decide) | exact one_bytes _ | (intro v hv; (repeat (rcases List.mem_cons.1 hv with rfl | hv; rfl)); cases hv))) : φ := h
theorem set_Cc {φ : Prop} (h : φ := by (first | (fail) | ((repeat (first | exact SetAt.here | apply SetAt.there)); first | done | fail))) : φ := h
theorem cl_Cc {φ : Prop} (h : φ := by first | rfl | exact .t | exact .f | exact .t (by omega) | exact .f (by omega) | exact .u | exact .i (by (first | exact .t (by omega) | exact .f (by omega) | exact .u | exact .i (by omega) | exact .v (by omega) | exact .b (by omega) | exact .w | rfl | omega)) | exact .v (by omega) | exact .b (by omega) | exact .q (by omega) | exact .w | exact .b (by exact at_) rfl (by exact nth_Cc) | exact .w (by exact at_) rfl rfl (by exact sz_Cc) | exact .s (by exact at_) (by exact mid_Cc) rfl rfl (by exact sz_Cc) | exact .z rfl rfl ⟨by kernel_rfl⟩ | exact .b rfl rfl ⟨by kernel_rfl⟩ | exact .a rfl rfl ⟨by kernel_rfl⟩ | exact .o rfl | exact .s | exact .n | exact .p rfl | exact .q rfl | exact .c rfl | exact .d rfl | exact .n rfl rfl (by omega) | exact .a rfl rfl (by omega) | exact .p rfl rfl (by omega) (by omega) | exact .y rfl rfl (by omega) (by omega) | exact .o (by exact at_) (by omega) rfl (by exact nth_Cc) | exact .m (by exact at_) (by omega) (by exact mid_Cc) rfl rfl (by exact sz_Cc) | exact .mlen (by exact at_) rfl | exact .t (by exact at_) rfl rfl (by first | exact True.intro | rfl) (by assumption) | exact .f (by exact at_) rfl rfl (by first | exact True.intro | rfl) (by assumption) rfl | exact .t1 (by exact at_) rfl rfl (by first | exact True.intro | rfl) (by assumption) | exact .f1 (by exact at_) rfl rfl (by first | exact True.intro | rfl) (by assumption) rfl | exact .r rfl rfl (by omega) (by omega) (by exact nth_Cc) rfl | exact .s rfl (by omega) (by assumption) | exact at_ | assumption | exact .r rfl rfl | exact .h rfl rfl rfl (by omega) | exact .l rfl rfl rfl (by omega) (by omega) | exact .g rfl rfl rfl rfl (by omega) (by omega) | exact .h rfl rfl (toN_ (by omega)) (by omega) | exact .l rfl rfl (toN_ (by omega)) (by omega) (by omega) | exact .g rfl rfl (toN_ (by omega)) (toN_ (by omega)) (by omega) (by omega) | exact .o (by decide) | exact .f (by decide) | exact .n (by omega) (by first | decide | (show _ ≤ ((64 : Nat) : Int); omega)) | (constructor; (repeat (first | exact .t (by omega) | exact .f (by omega) | exact .u | exact .i (by omega) | exact .v (by omega) | exact .b (by omega) | exact .w | rfl | omega)); first | done | fail) | omega | (show _ ≤ ((64 : Nat) : Int); omega)) : φ := h
theorem pv_Cc {φ : Prop} (h : φ := by constructor; (repeat exact cl_Cc); first | done | fail) : φ := h
theorem su_Cc {φ ψ : Prop} (k : ψ) (h : Hide ψ → φ := by (intro k; (first | refine sl_pu (PuI.sep (by exact pv_Cc)) rfl ?_ | refine sl_yes rfl rfl ?_ | refine sl_no rfl rfl rfl ?_ | refine sl_off rfl rfl rfl ?_ | (fail)); exact k.out)) : φ := h ⟨k⟩
theorem sto_Cc {φ ψ : Prop} (k : ψ) (h : Hide ψ → φ := by (intro k; (first | refine sl_store rfl (by exact pick_) rfl rfl (by kernel_rfl) (by exact set_Cc) ?_ | refine sl_store_whole rfl (by exact pick_) rfl (by exact sz_Cc) (by exact sz_Cc) (by exact one_Cc) ?_); exact k.out)) : φ := h ⟨k⟩
theorem go_Cc {φ ψ : Prop} (k : ψ) (h : Hide ψ → φ := by (intro k; (repeat (first | refine su_Cc ?_ | refine so_ ?_ | refine sto_Cc ?_)); exact k.out)) : φ := h ⟨k⟩
set_option maxRecDepth 100000 in
set_option maxHeartbeats 4000000 in
theorem tcheck_ok {K : List Fa} (kd fl bt ln wt ch np : Int) (tag : ByteArray) :
    Fn Tryz.prog 63 #[.agg (tCells kd fl bt ln wt ch np tag).toArray] K (Ret (fun _ : Unit => True) (fun _ => .int .i64 (tErr kd fl bt ln wt ch np tag)) (fun _ => K)) := by
  refine fn_enter Tryz.func63 rfl _ Tryz.ntmps63 (by simp) [(0, .agg (tCells kd fl bt ln wt ch np tag).toArray)] (args_of (by simp)) ?_
  refine go_Cc ?_
  refine sl_box rfl rfl rfl ?_; intro g1
  refine go_Cc ?_
  refine sl_call rfl rfl (by kernel_rfl) rfl (by exact sub_) (ccheck_ok kd fl bt ln wt ch) ?_; rintro _ -
  by_cases hc : ciErr kd fl bt ln wt ch = 0
  case neg =>
    rw [show tErr kd fl bt ln wt ch np tag = ciErr kd fl bt ln wt ch by simp [tErr, hc]]
    refine go_Cc ?_
    exact se_ret1 () trivial rfl rfl (by exact sub_)
  rw [hc]
  by_cases h1 : np < 1
  · rw [show tErr kd fl bt ln wt ch np tag = 6 by simp [tErr, hc, h1]]
    refine go_Cc ?_
    exact se_ret1 () trivial rfl rfl (by exact sub_)
  by_cases h2 : 3 < np
  · rw [show tErr kd fl bt ln wt ch np tag = 6 by simp [tErr, hc, h2]]
    refine go_Cc ?_
    exact se_ret1 () trivial rfl rfl (by exact sub_)
  by_cases h3 : 32 < (tag.size : Int)
  · rw [show tErr kd fl bt ln wt ch np tag = 6 by simp only [tErr, hc, h3]; simp]
    refine go_Cc ?_
    exact se_ret1 () trivial rfl rfl (by exact sub_)
  · rw [show tErr kd fl bt ln wt ch np tag = 0 by simp only [tErr, hc, h1, h2, h3]; simp]
    refine go_Cc ?_
    exact se_ret1 () trivial rfl rfl (by exact sub_)
/-- How many elements are summed. -/
def outN (kd ln : Int) : Int := if kd = 1 ∨ kd = 2 then 1 else if kd = 3 ∨ kd = 4 ∨ kd = 5 then ln else 0
end Go.Proofs.YtocaabnbmcpjmaaGreat
/- Package total: New, Add. -/
namespace Go.Proofs.YtocaabnbmcpjmaaGreat
open Go.RowKit
attribute [local irreducible] Go.Calls Go.Exit.then Go.Exit.inBlock Go.bodyPost Go.Code.wp Go.wpList
attribute [local irreducible] hashL ofId
/-- A task. -/
structure Ta where
  kd : Int
  fl : Int
  bt : Int
  ln : Int
  wt : Int
  ch : Int
  np : Int
  tag : ByteArray
def Ta.ci (t : Ta) : List Value := cCells t.kd t.fl t.bt t.ln t.wt t.ch
def Ta.c (t : Ta) : List Value := tCells t.kd t.fl t.bt t.ln t.wt t.ch t.np t.tag
def Ta.err (t : Ta) : Int := tErr t.kd t.fl t.bt t.ln t.wt t.ch t.np t.tag
def Ta.out (t : Ta) : Int := outN t.kd t.ln
theorem Ta.one (t : Ta) : ∀ v ∈ t.c, v.oneCell' = true := by
  intro v hv
  simp only [Ta.c, tCells, cCells, List.cons_append, List.nil_append, List.mem_cons, List.not_mem_nil, or_false] at hv
  rcases hv with rfl | rfl | rfl | rfl | rfl | rfl | rfl | rfl <;> rfl
theorem Ta.mid (t : Ta) : Mid t.c 0 t.ci := Mid.head
theorem Ta.ci_err {t : Ta} (h : t.err = 0) : ciErr t.kd t.fl t.bt t.ln t.wt t.ch = 0 := by
  unfold Ta.err tErr at h
  by_cases hc : ciErr t.kd t.fl t.bt t.ln t.wt t.ch = 0
  · exact hc
  · rw [if_pos hc] at h
    exact absurd h hc
theorem ci_ok {kd fl bt ln wt ch : Int} (h : ciErr kd fl bt ln wt ch = 0) : (fl = 1 ∨ fl = 2) ∧ (1 ≤ kd ∧ kd ≤ 5) ∧ ciIn kd bt ln wt ch = true ∧ callsN kd bt ln wt ch ≤ 511 := by
  unfold ciErr at h
  split at h
  · omega
  split at h
  · omega
  split at h
  · omega
  split at h
  · omega
  rename_i h1 h2 h3 h4
  exact ⟨Decidable.of_not_not h1, by omega, by simpa using h3, by omega⟩
theorem Ta.le {t : Ta} (h : t.err = 0) : (t.fl = 1 ∨ t.fl = 2) ∧ (1 ≤ t.kd ∧ t.kd ≤ 5) ∧ (0 ≤ t.bt ∧ t.bt ≤ 32) ∧ (0 ≤ t.ln ∧ t.ln ≤ 64) ∧ (0 ≤ t.wt ∧ t.wt ≤ 64) ∧ 0 ≤ t.ch ∧ t.ch ≤ 16 := by
  obtain ⟨h1, h2, h3, _⟩ := ci_ok (t.ci_err h)
  obtain ⟨h4, h5, h6, h7⟩ := ci_le h3
  exact ⟨h1, h2, h4, h5, h6, h7⟩
/-- A total's cells. -/
def tc (A : Option Addr) (n c : Nat) (m : Int) (k : Id) : List Value := [.slice A n c, .int .i64 m] ++ bytes k.l
theorem tc_len {A : Option Addr} {n c : Nat} {m : Int} {k : Id} : (tc A n c m k).length = 18 := by simp [tc, bytes, k.len]
theorem tc_one {A : Option Addr} {n c : Nat} {m : Int} {k : Id} : ∀ v ∈ tc A n c m k, v.oneCell' = true := by
  intro v hv
  rcases List.mem_append.1 hv with h | h
  · simp only [List.mem_cons, List.not_mem_nil, or_false] at h
    rcases h with rfl | rfl <;> rfl
  · exact one_bytes _ v h
theorem tc_mid {A : Option Addr} {n c : Nat} {m : Int} {k : Id} : Mid (tc A n c m k) 2 (bytes k.l) := by
  have := Mid.of_append (a := [Value.slice A n c, .int .i64 m]) (cl := bytes k.l) (b := []) (o := 2) rfl
  rwa [List.append_nil] at this
abbrev tz : List Value := tc none 0 0 0 zId
theorem tc_set0 {A B : Option Addr} {n c p d : Nat} {m : Int} {k : Id} : SetAt 0 (.slice B p d) (tc A n c m k) (tc B p d m k) := SetAt.here
theorem tc_n0 {A : Option Addr} {n c : Nat} {m : Int} {k : Id} : nth (tc A n c m k) 0 = some (.slice A n c) := rfl
theorem tc_n1 {A : Option Addr} {n c : Nat} {m : Int} {k : Id} : nth (tc A n c m k) 1 = some (.int .i64 m) := rfl
attribute [irreducible] tc
end Go.Proofs.YtocaabnbmcpjmaaGreat
