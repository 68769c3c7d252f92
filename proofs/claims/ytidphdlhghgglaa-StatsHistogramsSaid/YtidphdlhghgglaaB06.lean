/- Several texts of one claim, one behind the other (Srt, Fs, Fl, Fo, Sp5, Reg2, Reg3, Sp6). -/
import Derived.Test.YtidphdlhghgglaaB05
import Derived.Shelf.SlSortCmp.NoneTotal
import Derived.Test.YtidphdlhghgglaaB01
import Derived.WalkKit
import Derived.WalkLawsBesides
import Derived.Laws.Cover2
set_option linter.unusedVariables false
/- The library's sort, by the shelf's contract, over facts. No program is in sight. -/
namespace Go.Proofs.Ytidphdlhghgglaa
open Go.RowKit Go.Sort Go.Shelf
section
variable {α : Type} [Inhabited α] {enc : α → Value} {w : World} {g n c size : Nat} {e : TypeId} {d : Array α} {P : Program} {f : FuncId} {args : Array Value} {K : List Fa}
theorem holds_blk {cur : Array Value} (hb : Blk w g e cur) (ht : cur.toList.take d.size = d.toList.map enc) : Holds enc w g 0 d := by
  intro j hj
  unfold Blk at hb
  refine ⟨?_, by simp [World.frozen?, hb]⟩
  have h1 : (cur.toList.take d.size)[j]? = (d.toList.map enc)[j]? := by rw [ht]
  rw [List.getElem?_take_of_lt hj] at h1
  simp only [World.cell?, hb, Nat.zero_add]
  simp only [Option.isSome_none, Bool.false_eq_true, if_false]
  rw [← Array.getElem?_toList, h1]
  simp [hj]
theorem blk_sorted {cur : Array Value} {m : Nat} {os : Array Obj} (d : Array α) (hb : Blk w g e cur) : Blk (sortWorld enc w g 0 m d os) g e (putCells enc 0 d cur) := by
  unfold Blk at hb
  have hg : g < w.heap.size := (Array.getElem?_eq_some_iff.1 hb).1
  unfold Blk sortWorld
  rw [heap_grow_old _ _ (by simpa [putRow, mapBlock, Sort.ahead] using hg)]
  simp [putRow, mapBlock, Sort.ahead, Array.getElem?_modify, hb, onCells]
theorem fr_sorted {m : Nat} {os : Array Obj} (d : Array α) : Fr (fun j => j = g) w (sortWorld enc w g 0 m d os) := by
  unfold sortWorld
  refine ⟨rfl, rfl, rfl, by simp [putRow, mapBlock, Sort.ahead], fun k hk hne => ?_⟩
  rw [heap_grow_old _ _ (by simpa [putRow, mapBlock, Sort.ahead] using hk)]
  have : g ≠ k := fun e => hne e.symm
  simp [putRow, mapBlock, Sort.ahead, Array.getElem?_modify, this]
theorem take_put (cur : Array Value) (d : Array α) (h : d.size ≤ cur.size) : (putCells enc 0 d cur).toList.take d.size = d.toList.map enc := by
  apply List.ext_getElem?
  intro j
  by_cases hj : j < d.size
  · rw [List.getElem?_take_of_lt hj, Array.getElem?_toList]
    simp [putCells, hj, show j < cur.size by omega]
  · rw [List.getElem?_take_eq_none (by omega), List.getElem?_eq_none (by simp; omega)]
theorem sep_sorted (hw : Sep w (own e size (some ⟨g, 0, none⟩) n c (d.toList.map enc) :: K)) : Holds enc w g 0 d ∧ g < w.heap.size ∧ d.size = n * size ∧ n ≤ c ∧ ∀ (d' : Array α) m os, d'.size = d.size → Sep (sortWorld enc w g 0 m d' os) (own e size (some ⟨g, 0, none⟩) n c (d'.toList.map enc) :: K) := by
  have hO : w.ownsRow 0 e size (.slice (some ⟨g, 0, none⟩) n c) n (d.toList.map enc) := by
    have := hw.hd
    unfold own at this
    exact this
  obtain ⟨cur, hB, hkc, hcm, hcs, htk, hxl⟩ := own_open hO
  have hn : d.size = n * size := by simpa using hxl
  have hle : n * size ≤ c * size := Nat.mul_le_mul_right _ hkc
  refine ⟨holds_blk hB (by rw [hn]; exact htk), hB.lt, hn, hkc, fun d' m os hs => ?_⟩
  refine hw.step (fr_sorted d') (fun j _ e => by rw [own_F]; exact congrArg some e.symm) (own_mk (own_close (blk_sorted d' hB) hkc hcm (by simp [putCells, hcs]) ?_ (by simp [hs, hn]))) (fun j hj => .inl (by rw [own_F] at hj ⊢; exact hj))
  rw [← hn, ← hs]
  exact take_put _ _ (by omega)
theorem fn_sort1 {Φ : Array α → Prop} (h : ∀ w, Holds enc w g 0 d → g < w.heap.size → Calls P f args w fun x w' => x = .returned (.tuple #[]) ∧ ∃ d' m os, Φ d' ∧ d'.size = d.size ∧ w' = sortWorld enc w g 0 m d' os) :
    Fn P f args (own e 1 (some ⟨g, 0, none⟩) n c (d.toList.map enc) :: K) (Ret (fun x : Array α => Φ x ∧ x.size = d.size) (fun _ => .tuple #[]) (fun x => own e 1 (some ⟨g, 0, none⟩) n c (x.toList.map enc) :: K)) := by
  unfold Fn
  intro w hw
  obtain ⟨hH, hg, _, _, hS⟩ := sep_sorted hw
  refine (h w hH hg).mono ?_
  rintro x w' ⟨rfl, d', m, os, hφ, hs, rfl⟩
  exact ⟨d', ⟨hφ, hs⟩, rfl, hS d' m os hs⟩
theorem flat_list (enc : α → List Value) (k : Nat) (hk : ∀ x, (enc x).length = k) (d : Array α) : (flatK enc k d).toList.map id = d.toList.flatMap enc := by
  rw [List.map_id]
  apply List.ext_getElem?
  intro t
  by_cases ht : t < d.size * k
  · have k0 : 0 < k := by
      rcases Nat.eq_zero_or_pos k with h | h
      · subst h; simp at ht
      · exact h
    have h1 := get_flatK enc k d t ht
    have hs : (flatK enc k d).size = d.size * k := by simp
    have h2 : t / k < d.size := by
      rw [Nat.div_lt_iff_lt_mul k0]
      exact ht
    have h3 : t % k < (enc d[t / k]!).length := by rw [hk]; exact Nat.mod_lt _ k0
    have h4 : ∀ (l : List α) (q r : Nat), r < k → ∀ x, l[q]? = some x → (l.flatMap enc)[q * k + r]? = (enc x)[r]? := by
      intro l
      induction l with
      | nil => intro q r _ x hx; simp at hx
      | cons a l ih =>
        intro q r hr x hx
        rw [List.flatMap_cons]
        cases q with
        | zero =>
          simp only [List.getElem?_cons_zero, Option.some.injEq] at hx
          subst hx
          rw [Nat.zero_mul, Nat.zero_add, List.getElem?_append_left (by rw [hk]; exact hr)]
        | succ q =>
          simp only [List.getElem?_cons_succ] at hx
          rw [List.getElem?_append_right (by rw [hk, Nat.succ_mul]; omega), hk, show (q + 1) * k + r - k = q * k + r by rw [Nat.succ_mul]; omega]
          exact ih q r hr x hx
    have h5 := h4 d.toList (t / k) (t % k) (Nat.mod_lt _ k0) d[t / k]! (by simp [h2])
    rw [Nat.div_add_mod' t k] at h5
    rw [h5, Array.getElem?_toList, Array.getElem?_eq_getElem (by rw [hs]; exact ht), List.getElem?_eq_getElem h3]
    rw [getElem!_pos _ t (by rw [hs]; exact ht)] at h1
    rw [h1, getElem!_pos (enc d[t / k]!) (t % k) h3]
  · have h6 : ∀ (l : List α), (l.flatMap enc).length = l.length * k := by
      intro l
      induction l with
      | nil => simp
      | cons a l ih => rw [List.flatMap_cons, List.length_append, ih, hk, List.length_cons, Nat.succ_mul]; omega
    rw [List.getElem?_eq_none (by simp; omega), List.getElem?_eq_none (by rw [h6]; simp; omega)]
theorem fn_sortK {enc : α → List Value} {k : Nat} (hk : ∀ x, (enc x).length = k) {Φ : Array α → Prop} (h : ∀ w, HoldsK enc k w g 0 d → g < w.heap.size → Calls P f args w fun x w' => x = .returned (.tuple #[]) ∧ ∃ d' m os, Φ d' ∧ d'.size = d.size ∧ w' = sortWorldK enc k w g 0 m d' os) :
    Fn P f args (own e k (some ⟨g, 0, none⟩) n c (d.toList.flatMap enc) :: K) (Ret (fun x : Array α => Φ x ∧ x.size = d.size) (fun _ => .tuple #[]) (fun x => own e k (some ⟨g, 0, none⟩) n c (x.toList.flatMap enc) :: K)) := by
  unfold Fn
  intro w hw
  rw [← flat_list enc k hk d] at hw
  obtain ⟨hH, hg, _, _, hS⟩ := sep_sorted hw
  refine (h w hH hg).mono ?_
  rintro x w' ⟨rfl, d', m, os, hφ, hs, rfl⟩
  refine ⟨d', ⟨hφ, hs⟩, rfl, ?_⟩
  have h1 := hS (flatK enc k d') m os (by simp [hs])
  rw [flat_list enc k hk d'] at h1
  exact h1
end
end Go.Proofs.Ytidphdlhghgglaa
/- Small functions on floats: IsNaN, Signbit, Same, Compare, order: what they answer; no memory turns. -/
namespace Go.Proofs.Ytidphdlhghgglaa
open Go.RowKit
def fEq (x y : Nat) : Bool := FloatKind.f64.format.order x y == some .eq
def fLt (x y : Nat) : Bool := FloatKind.f64.format.order x y == some .lt
def fnan (x : Nat) : Bool := !fEq x x
def fneg (x : Nat) : Bool := decide (9223372036854775808 ≤ x)
def sameF (x y : Nat) : Bool := fEq x y || (fnan x && fnan y)
def compF (x y : Nat) : Int := if sameF x y then 0 else if fnan x || fLt x y then -1 else 1
def ordF (x y : Nat) : Int := if compF x y ≠ 0 then compF x y else if fneg x = fneg y then 0 else if fneg x then -1 else 1
theorem isNaN_c (x : Nat) (W : World) : Calls Try.prog 25 #[.float .f64 x] W fun e w' => e = .returned (.bool (fnan x)) ∧ w' = W := by
  go_enter Try.func25, Try.ntmps25
  go_wp2
  go_ret
  exact ⟨rfl, rfl⟩
theorem bits_row (args : Array Value) (w : World) : (callFunc 39 args).run Try.prog w = (Extern.MathFloatBits.float64bits args >>= fun v => pure (Next.value v)).run Try.prog w := by kernel_rfl
theorem run_bits (x : Nat) (w : World) : (callFunc 39 #[.float .f64 x]).run Try.prog w = .ok (.value (.int .u64 x)) w := by
  rw [bits_row]
  rfl
theorem frombits_row (args : Array Value) (w : World) : (callFunc 29 args).run Try.prog w = (Extern.MathFloatBits.float64frombits args >>= fun v => pure (Next.value v)).run Try.prog w := by kernel_rfl
theorem run_frombits (x : Int) (w : World) : (callFunc 29 #[.int .u64 x]).run Try.prog w = .ok (.value (.float .f64 x.toNat)) w := by
  rw [frombits_row]
  rfl
theorem signbit_c (x : Nat) (hx : x < 18446744073709551616) (W : World) : Calls Try.prog 24 #[.float .f64 x] W fun e w' => e = .returned (.bool (fneg x)) ∧ w' = W := by
  have h39 := fun w => run_bits x w
  go_enter Try.func24, Try.ntmps24
  go_wp2
  go_ret
  refine ⟨?_, rfl⟩
  show Ending.returned (.bool (decide (wrap64 (x : Int) < 0))) = _
  congr 2
  unfold fneg
  rw [decide_eq_decide]
  unfold wrap64
  omega
theorem same_c (x y : Nat) (W : World) : Calls Try.prog 30 #[.float .f64 x, .float .f64 y] W fun e w' => e = .returned (.bool (sameF x y)) ∧ w' = W := by
  go_enter Try.func30, Try.ntmps30
  go_wp2_with (go_at_call 25; refine (isNaN_c _ _).mono ?_; rintro e w' ⟨rfl, rfl⟩)
  all_goals go_ret
  all_goals refine ⟨?_, rfl⟩
  all_goals simp_all [sameF, fEq]
theorem comp_c (x y : Nat) (W : World) : Calls Try.prog 42 #[.float .f64 x, .float .f64 y] W fun e w' => e = .returned (.int .i64 (compF x y)) ∧ w' = W := by
  go_enter Try.func42, Try.ntmps42
  go_wp2_with (first | (go_at_call 25; refine (isNaN_c _ _).mono ?_; rintro e w' ⟨rfl, rfl⟩) | (go_at_call 30; refine (same_c _ _ _).mono ?_; rintro e w' ⟨rfl, rfl⟩))
  all_goals go_ret
  all_goals refine ⟨?_, rfl⟩
  all_goals simp_all [compF, fLt]
theorem ord_c (x y : Nat) (hx : x < 18446744073709551616) (hy : y < 18446744073709551616) (W : World) : Calls Try.prog 27 #[.float .f64 x, .float .f64 y] W fun e w' => e = .returned (.int .i64 (ordF x y)) ∧ w' = W := by
  go_enter Try.func27, Try.ntmps27
  go_wp2_with (first | (go_at_call 24; refine (signbit_c _ (by assumption) _).mono ?_; rintro e w' ⟨rfl, rfl⟩) | (go_at_call 42; refine (comp_c _ _ _).mono ?_; rintro e w' ⟨rfl, rfl⟩))
  all_goals go_ret
  all_goals refine ⟨?_, rfl⟩
  all_goals simp_all [ordF]
end Go.Proofs.Ytidphdlhghgglaa
/- Floats in the order of their values. No program is in sight. -/
namespace Go.Proofs.Ytidphdlhghgglaa
open Go.RowKit
def bigE : Nat := 2200
theorem bigE_eq : bigE = 2200 := rfl
def big : Nat := 2 ^ bigE
theorem big_eq : big = 2 ^ bigE := rfl
attribute [irreducible] bigE big
theorem icmp (a b : Int) : compare a b = if a < b then Ordering.lt else if a = b then Ordering.eq else Ordering.gt := rfl
def fvD : Ieee.Datum → Int
  | .number s m i => Ieee.signed s m (i + 1074).toNat
  | .infinity s => if s then -(big : Int) else big
  | .nan _ _ => 0
def fv (x : Nat) : Int := fvD (Ieee.double.read x)
theorem signed_add (s : Bool) (m a k : Nat) : Ieee.signed s m (a + k) = Ieee.signed s m a * 2 ^ k := by
  have h : m <<< (a + k) = m <<< a * 2 ^ k := by rw [Nat.shiftLeft_eq, Nat.shiftLeft_eq, Nat.pow_add, Nat.mul_assoc]
  unfold Ieee.signed
  rw [h]
  split
  · rw [Int.natCast_mul, Int.neg_mul, Int.natCast_pow]
    rfl
  · rw [Int.natCast_mul, Int.natCast_pow]
    rfl
/-- What a word may stand for. -/
def OkD : Ieee.Datum → Prop
  | .number _ m i => -1074 ≤ i ∧ m <<< (i + 1074).toNat < big
  | _ => True
theorem read_ok (x : Nat) : OkD (Ieee.double.read x) := by
  have hb : Ieee.double.binade = 4503599627370496 := by decide
  have hi : Ieee.double.infRung = 2047 * 4503599627370496 := by decide
  have hp : Ieee.double.leastPlace = -1074 := by decide
  unfold Ieee.Format.read
  simp only [hb, hi, hp]
  generalize x % Ieee.double.signWeight = rung
  generalize (x / Ieee.double.signWeight % 2 == 1) = neg
  split
  · rename_i h
    refine ⟨Int.le_refl _, ?_⟩
    rw [show ((-1074 : Int) + 1074).toNat = 0 by decide, Nat.shiftLeft_zero, big_eq]
    exact Nat.lt_of_lt_of_le (Nat.lt_trans h (by decide : 4503599627370496 < 2 ^ 53)) (Nat.pow_le_pow_right (by decide) (by rw [bigE_eq]; decide))
  · split
    · rename_i h1 h2
      have h3 : rung / 4503599627370496 < 2047 := by omega
      refine ⟨by omega, ?_⟩
      rw [show ((-1074 : Int) + ((rung / 4503599627370496 - 1 : Nat) : Int) + 1074).toNat = rung / 4503599627370496 - 1 by omega, Nat.shiftLeft_eq, big_eq]
      have h4 : 4503599627370496 + rung % 4503599627370496 < 2 ^ 53 := by
        have := Nat.mod_lt rung (by decide : 0 < 4503599627370496)
        omega
      have h5 : 2 ^ (rung / 4503599627370496 - 1) ≤ 2 ^ (bigE - 154) := Nat.pow_le_pow_right (by decide) (by rw [bigE_eq]; omega)
      refine Nat.lt_of_lt_of_le (Nat.mul_lt_mul_of_lt_of_le h4 h5 (Nat.two_pow_pos _)) ?_
      rw [← Nat.pow_add]
      exact Nat.pow_le_pow_right (by decide) (by rw [bigE_eq]; decide)
    · split <;> exact True.intro
theorem fvD_lt {s : Bool} {m : Nat} {i : Int} (h : OkD (.number s m i)) : -(big : Int) < fvD (.number s m i) ∧ fvD (.number s m i) < big := by
  obtain ⟨_, h2⟩ := h
  show -(big : Int) < Ieee.signed s m (i + 1074).toNat ∧ Ieee.signed s m (i + 1074).toNat < big
  unfold Ieee.signed
  generalize m <<< (i + 1074).toNat = q at h2 ⊢
  generalize big = B at h2 ⊢
  cases s <;> simp only [Bool.false_eq_true, if_false, if_true] <;> omega
theorem order_D {a b : Ieee.Datum} (ha : OkD a) (hb : OkD b) (na : a.isNaN = false) (nb : b.isNaN = false) : a.order b = some (compare (fvD a) (fvD b)) := by
  cases a with
  | nan s t => cases na
  | infinity s =>
    cases b with
    | nan s t => cases nb
    | infinity t =>
      have hbig : 0 < big := by rw [big_eq]; exact Nat.two_pow_pos _
      have e : ∀ u : Bool, fvD (.infinity u) = if u then -(big : Int) else big := fun _ => rfl
      rw [e, e, icmp]
      generalize big = B at hbig ⊢
      cases s <;> cases t <;> simp only [Bool.false_eq_true, if_false, if_true]
      · rw [if_neg (Int.lt_irrefl _)]
        rfl
      · rw [if_neg (by omega), if_neg (by omega)]
        rfl
      · rw [if_pos (by omega)]
        rfl
      · rw [if_neg (Int.lt_irrefl _)]
        rfl
    | number t n j =>
      have h1 := fvD_lt hb
      generalize hv : fvD (.number t n j) = v at h1 ⊢
      unfold Ieee.Datum.order
      rw [icmp]
      unfold fvD
      cases s
      · rw [if_neg (by simp only [Bool.false_eq_true, if_false]; omega), if_neg (by simp only [Bool.false_eq_true, if_false]; omega)]
        rfl
      · rw [if_pos (by simp only [if_true]; omega)]
        rfl
  | number s m i =>
    cases b with
    | nan s t => cases nb
    | infinity t =>
      have h1 := fvD_lt ha
      generalize hv : fvD (.number s m i) = v at h1 ⊢
      unfold Ieee.Datum.order
      rw [icmp]
      unfold fvD
      cases t
      · rw [if_pos (by simp only [Bool.false_eq_true, if_false]; omega)]
        rfl
      · rw [if_neg (by simp only [if_true]; omega), if_neg (by simp only [if_true]; omega)]
        rfl
    | number t n j =>
      obtain ⟨h1, _⟩ := ha
      obtain ⟨h2, _⟩ := hb
      unfold Ieee.Datum.order fvD
      dsimp only
      obtain ⟨k, hk⟩ : ∃ k : Nat, min i j = (k : Int) - 1074 := ⟨(min i j + 1074).toNat, by omega⟩
      rw [hk, show (i + 1074).toNat = (i - ((k : Int) - 1074)).toNat + k by omega, show (j + 1074).toNat = (j - ((k : Int) - 1074)).toNat + k by omega, signed_add, signed_add]
      generalize Ieee.signed s m (i - ((k : Int) - 1074)).toNat = A
      generalize Ieee.signed t n (j - ((k : Int) - 1074)).toNat = B
      have hpos : (0 : Int) < 2 ^ k := Int.pow_pos (by decide)
      congr 1
      rw [icmp, icmp]
      by_cases hlt : A < B
      · rw [if_pos hlt, if_pos (Int.mul_lt_mul_of_pos_right hlt hpos)]
      · by_cases he : A = B
        · subst he
          rw [if_neg hlt, if_pos rfl, if_neg (Int.lt_irrefl _), if_pos rfl]
        · have hgt : B < A := by omega
          have := Int.mul_lt_mul_of_pos_right hgt hpos
          rw [if_neg hlt, if_neg he, if_neg (by omega), if_neg (by omega)]
theorem order_nan {a b : Ieee.Datum} (h : a.isNaN = true ∨ b.isNaN = true) : a.order b = none := by
  cases a <;> cases b <;> simp_all [Ieee.Datum.isNaN, Ieee.Datum.order]
theorem f64_format : FloatKind.f64.format = Ieee.double := rfl
theorem ord_none {x y : Nat} (h : (Ieee.double.read x).isNaN = true ∨ (Ieee.double.read y).isNaN = true) : FloatKind.f64.format.order x y = none := order_nan h
theorem ord_some {x y : Nat} (hx : (Ieee.double.read x).isNaN = false) (hy : (Ieee.double.read y).isNaN = false) : FloatKind.f64.format.order x y = some (compare (fv x) (fv y)) := order_D (read_ok x) (read_ok y) hx hy
theorem fnan_eq (x : Nat) : fnan x = (Ieee.double.read x).isNaN := by
  unfold fnan fEq
  cases h : (Ieee.double.read x).isNaN with
  | true =>
    rw [ord_none (.inl h)]
    rfl
  | false =>
    rw [ord_some h h, icmp, if_neg (Int.lt_irrefl _), if_pos rfl]
    rfl
theorem fEq_of {x y : Nat} (hx : fnan x = false) (hy : fnan y = false) : fEq x y = decide (fv x = fv y) := by
  rw [fnan_eq] at hx hy
  unfold fEq
  rw [ord_some hx hy, icmp]
  by_cases h : fv x < fv y
  · rw [if_pos h, decide_eq_false (by omega)]
    rfl
  · by_cases h2 : fv x = fv y
    · rw [if_neg h, if_pos h2, decide_eq_true h2]
      rfl
    · rw [if_neg h, if_neg h2, decide_eq_false h2]
      rfl
theorem fLt_of {x y : Nat} (hx : fnan x = false) (hy : fnan y = false) : fLt x y = decide (fv x < fv y) := by
  rw [fnan_eq] at hx hy
  unfold fLt
  rw [ord_some hx hy, icmp]
  by_cases h : fv x < fv y
  · rw [if_pos h, decide_eq_true h]
    rfl
  · by_cases h2 : fv x = fv y
    · rw [if_neg h, if_pos h2, decide_eq_false h]
      rfl
    · rw [if_neg h, if_neg h2, decide_eq_false h]
      rfl
theorem fEq_nan {x y : Nat} (h : fnan x = true ∨ fnan y = true) : fEq x y = false := by
  rw [fnan_eq, fnan_eq] at h
  unfold fEq
  rw [ord_none h]
  rfl
theorem fLt_nan {x y : Nat} (h : fnan x = true ∨ fnan y = true) : fLt x y = false := by
  rw [fnan_eq, fnan_eq] at h
  unfold fLt
  rw [ord_none h]
  rfl
theorem fGt_eq (x y : Nat) : (FloatKind.f64.format.order x y == some .gt) = fLt y x := by
  by_cases h : fnan x = true ∨ fnan y = true
  · rw [fLt_nan h.symm]
    rw [fnan_eq, fnan_eq] at h
    rw [ord_none h]
    rfl
  · have hx : fnan x = false := by cases hh : fnan x <;> simp_all
    have hy : fnan y = false := by cases hh : fnan y <;> simp_all
    rw [fLt_of hy hx]
    rw [fnan_eq] at hx hy
    rw [ord_some hx hy, icmp]
    by_cases h : fv x < fv y
    · rw [if_pos h, decide_eq_false (by omega)]
      rfl
    · by_cases h2 : fv x = fv y
      · rw [if_neg h, if_pos h2, decide_eq_false (by omega)]
        rfl
      · rw [if_neg h, if_neg h2, decide_eq_true (by omega)]
        rfl
/-- By its value, and a nought with a sign first. -/
def key (x : Nat) : Int := 2 * fv x + (if fneg x then 0 else 1)
theorem ordF_of {x y : Nat} (hx : fnan x = false) (hy : fnan y = false) : ordF x y = if key x < key y then -1 else if key x = key y then 0 else 1 := by
  unfold ordF compF sameF key
  rw [fEq_of hx hy, fLt_of hx hy, hx, hy]
  simp only [Bool.and_self, Bool.or_false, Bool.false_or, decide_eq_true_eq]
  cases fneg x <;> cases fneg y <;> simp only [Bool.false_eq_true, if_false, if_true, ne_eq] <;> (repeat' split) <;> first | rfl | omega | (exfalso; omega) | simp_all
end Go.Proofs.Ytidphdlhghgglaa
/- The shelf's contract of slices.SortFunc at floats, laid at this program (printed by the kit's lay-plain), and over facts: numbers in their order. -/
namespace Go.Proofs.Ytidphdlhghgglaa
open Go.Shelf Go.Sort Go.RowKit
def sortF_ren : Go.Shelf.Ren := ⟨fun | 6 => 26 | 15 => 41 | 14 => 40 | 28 => 55 | 29 => 56 | 20 => 47 | 21 => 48 | 22 => 49 | 23 => 50 | 24 => 51 | 25 => 52 | 26 => 53 | 27 => 54 | 46 => 59 | 47 => 60 | 48 => 61 | 49 => 62 | 50 => 63 | 57 => 66 | n => n, fun | 22 => 22 | 24 => 24 | 25 => 65 | 3 => 3 | 39 => 53 | 0 => 0 | 53 => 88 | 55 => 50 | 4 => 4 | 46 => 82 | 45 => 81 | 50 => 69 | 5 => 5 | 9 => 9 | 66 => 92 | 70 => 96 | 76 => 99 | 77 => 100 | n => n, fun | n => n⟩
theorem sortF : Go.Proofs.SlLaysF.n6 Try.prog sortF_ren := {
  mixed := by kernel_rfl
  f6 := ⟨Try.f26.name, by decide, Try.func26.trans (congrArg some (by kernel_rfl))⟩
  f14 := ⟨Try.f40.name, by decide, Try.func40.trans (congrArg some (by kernel_rfl))⟩
  f15 := Try.func41.trans (congrArg some (by kernel_rfl))
  f20 := ⟨Try.f47.name, by decide, Try.func47.trans (congrArg some (by kernel_rfl))⟩
  f21 := ⟨Try.f48.name, by decide, Try.func48.trans (congrArg some (by kernel_rfl))⟩
  f22 := ⟨Try.f49.name, by decide, Try.func49.trans (congrArg some (by kernel_rfl))⟩
  f23 := ⟨Try.f50.name, by decide, Try.func50.trans (congrArg some (by kernel_rfl))⟩
  f24 := ⟨Try.f51.name, by decide, Try.func51.trans (congrArg some (by kernel_rfl))⟩
  f25 := ⟨Try.f52.name, by decide, Try.func52.trans (congrArg some (by kernel_rfl))⟩
  f26 := ⟨Try.f53.name, by decide, Try.func53.trans (congrArg some (by kernel_rfl))⟩
  f27 := ⟨Try.f54.name, by decide, Try.func54.trans (congrArg some (by kernel_rfl))⟩
  f28 := Try.func55.trans (congrArg some (by kernel_rfl))
  f29 := Try.func56.trans (congrArg some (by kernel_rfl))
  f46 := ⟨Try.f59.name, by decide, Try.func59.trans (congrArg some (by kernel_rfl))⟩
  f47 := Try.func60.trans (congrArg some (by kernel_rfl))
  f48 := Try.func61.trans (congrArg some (by kernel_rfl))
  f49 := ⟨Try.f62.name, by decide, Try.func62.trans (congrArg some (by kernel_rfl))⟩
  f50 := ⟨Try.f63.name, by decide, Try.func63.trans (congrArg some (by kernel_rfl))⟩
  f57 := ⟨Try.f66.name, by decide, Try.func66.trans (congrArg some (by kernel_rfl))⟩
  t0 := Try.underlying0
  a0 := Try.isAgg0
  z0 := Try.sizeOf0
  v0 := Try.zeroValue0
  t3 := Try.underlying3
  a3 := Try.isAgg3
  z3 := Try.sizeOf3
  v3 := Try.zeroValue3
  t4 := Try.underlying4
  a4 := Try.isAgg4
  z4 := Try.sizeOf4
  v4 := Try.zeroValue4
  t5 := Try.underlying5
  a5 := Try.isAgg5
  z5 := Try.sizeOf5
  v5 := Try.zeroValue5
  t9 := Try.underlying9
  a9 := Try.isAgg9
  z9 := Try.sizeOf9
  v9 := Try.zeroValue9
  t22 := Try.underlying22
  a22 := Try.isAgg22
  z22 := Try.sizeOf22
  v22 := Try.zeroValue22
  a24 := Try.isAgg24
  z24 := Try.sizeOf24
  t25 := Try.underlying65
  a25 := Try.isAgg65
  z25 := Try.sizeOf65
  v25 := Try.zeroValue65
  t39 := Try.underlying53
  a39 := Try.isAgg53
  z39 := Try.sizeOf53
  v39 := Try.zeroValue53
  t45 := Try.underlying81
  a45 := Try.isAgg81
  z45 := Try.sizeOf81
  v45 := Try.zeroValue81
  t46 := Try.underlying82
  a46 := Try.isAgg82
  z46 := Try.sizeOf82
  v46 := Try.zeroValue82
  t50 := Try.underlying69
  a50 := Try.isAgg69
  z50 := Try.sizeOf69
  v50 := Try.zeroValue69
  t53 := Try.underlying88
  a53 := Try.isAgg88
  z53 := Try.sizeOf88
  v53 := Try.zeroValue88
  t55 := Try.underlying50
  a55 := Try.isAgg50
  z55 := Try.sizeOf50
  v55 := Try.zeroValue50
  t66 := Try.underlying92
  a66 := Try.isAgg92
  z66 := Try.sizeOf92
  v66 := Try.zeroValue92
  t70 := Try.underlying96
  a70 := Try.isAgg96
  z70 := Try.sizeOf96
  v70 := Try.zeroValue96
  t76 := Try.underlying99
  a76 := Try.isAgg99
  z76 := Try.sizeOf99
  v76 := Try.zeroValue99
  t77 := Try.underlying100
  a77 := Try.isAgg100
  z77 := Try.sizeOf100
  v77 := Try.zeroValue100 }
/-- A float that is a number. -/
structure Fp where
  x : Nat
  nn : fnan x = false
  lt : x < 18446744073709551616
instance : Inhabited Fp := ⟨⟨0, by rw [fnan_eq]; rfl, by decide⟩⟩
def Fp.v (f : Fp) : Value := .float .f64 f.x
def cmpF (a b : Fp) : Int := ordF a.x b.x
theorem lt_cmp (a b : Fp) : ltOf cmpF a b = decide (key a.x < key b.x) := by
  unfold ltOf cmpF
  rw [ordF_of a.nn b.nn]
  by_cases h : key a.x < key b.x
  · rw [if_pos h, decide_eq_true h]
    rfl
  · by_cases h2 : key a.x = key b.x
    · rw [if_neg h, if_pos h2, decide_eq_false h]
      rfl
    · rw [if_neg h, if_neg h2, decide_eq_false h]
      rfl
theorem swo_cmp : SWO (ltOf cmpF) where
  irrefl x := by rw [lt_cmp]; simp
  trans x y z h1 h2 := by rw [lt_cmp] at *; simp at *; omega
  ntrans x y z h1 h2 := by rw [lt_cmp] at *; simp at *; omega
theorem one_fp (f : Fp) : f.v.oneCell' = true := rfl
theorem enters_ord : ∀ args w, (callFunc 27 args).run Try.prog w = .ok (.enter 27 args) w := fun args w => by kernel_rfl
theorem reads_ord (blk off size : Nat) (w : World) : CmpReads Try.prog 27 #[] Fp.v cmpF blk off size w := fun _ _ _ _ x y => (ord_c x.x y.x x.lt y.lt _).mono fun _ _ h => ⟨h.1, 0, h.2⟩
theorem sortf_ok {K : List Fa} {A : Option Addr} {c : Nat} {ds : List Fp} (hn : ds.length ≤ 1000000) :
    Fn Try.prog 26 #[.slice A ds.length c, .func (.func 27) #[] #[]] (own 24 1 A ds.length c (ds.map Fp.v) :: K) (Ret (fun d : List Fp => d.Perm ds ∧ d.Pairwise (fun a b => key a.x ≤ key b.x)) (fun _ => .tuple #[]) (fun d => own 24 1 A ds.length c (d.map Fp.v) :: K)) := by
  rcases Nat.eq_zero_or_pos ds.length with h0 | h0
  · obtain rfl : ds = [] := List.eq_nil_of_length_eq_zero h0
    unfold Fn
    intro w hw
    have hnone := AnyF.slices_SortFunc_none (L := { sortF with }) A c (.func (.func 27) #[] #[]) w
    refine hnone.mono ?_
    rintro x w' ⟨rfl, rfl⟩
    exact ⟨[], ⟨.refl _, .nil⟩, rfl, hw⟩
  · unfold Fn
    intro w hw
    obtain ⟨g, cap, hv, _, _⟩ := World.ownsRow.form (show w.ownsRow 0 24 1 (.slice A ds.length c) ds.length (ds.map Fp.v) from by have := hw.hd; unfold own at this; exact this) h0
    obtain rfl : A = some ⟨g, 0, none⟩ := by injection hv
    have h1 : (ds.map Fp.v) = ds.toArray.toList.map Fp.v := by simp
    rw [h1] at hw
    obtain ⟨hH, hg, _, _, hS⟩ := sep_sorted hw
    have hcon := Any.slices_SortFunc sortF Fp.v one_fp cmpF swo_cmp 27 #[] g 0 c ds.toArray w enters_ord (reads_ord g 0 _ w).lays hH hg (by simp; omega)
    rw [List.size_toArray] at hcon
    refine hcon.mono ?_
    rintro x w' ⟨rfl, d', m, os, hp, hs, rfl⟩
    obtain ⟨hsz, _, hperm⟩ := hp
    have e1 : d'.extract 0 ds.length = d' := by rw [← List.size_toArray, ← hsz]; exact Array.extract_size
    rw [e1, ← List.size_toArray, Array.extract_size] at hperm
    refine ⟨d'.toList, ⟨hperm, ?_⟩, rfl, hS d' m os hsz⟩
    rw [List.pairwise_iff_getElem]
    intro i j hi hj hij
    rw [Array.length_toList] at hi hj
    have h2 := hs i j (Nat.zero_le _) hij (by rw [← List.size_toArray, ← hsz]; exact hj)
    rw [lt_cmp, getElem!_pos d' i hi, getElem!_pos d' j hj] at h2
    simp only [decide_eq_false_iff_not] at h2
    simp only [Array.getElem_toList]
    omega
end Go.Proofs.Ytidphdlhghgglaa
/- More steps over facts. No program is in sight. -/
namespace Go.Proofs.Ytidphdlhghgglaa
open Go.RowKit
theorem SE.to {Q : Exit → Act → World → Prop} {e : Exit} {n : Nat} {l : Env} {L : List Fa} {w : World} (hw : Sep w L) (h : SE Q e n l L) : WE Q e n l w := by
  unfold SE at h
  exact h w hw
theorem mid_set {pre m post : List Value} {k i : Nat} {v : Value} (hk : pre.length = k) (hi : i < m.length) : (pre ++ m ++ post).set (k + i) v = pre ++ m.set i v ++ post := by
  subst hk
  rw [List.append_assoc, List.append_assoc, List.set_append_right _ _ (by omega), Nat.add_sub_cancel_left, List.set_append_left _ _ hi]
theorem nth_mid {pre m post : List Value} {k i : Nat} {v : Value} (hk : pre.length = k) (h : nth m i = some v) : nth (pre ++ m ++ post) (k + i) = some v := by
  rw [nth_eq] at h ⊢
  exact Mid.of_append hk i v h
theorem rows_split {X : Type} {C : X → List Value} {sz : Nat} (hC : ∀ s, (C s).length = sz) {ss : List X} {j : Nat} {s : X} (h : ss[j]? = some s) : ∃ pre post, rows C ss = pre ++ C s ++ post ∧ pre.length = j * sz ∧ ∀ s', rows C (ss.set j s') = pre ++ C s' ++ post := by
  obtain ⟨h1, h2⟩ := List.getElem?_eq_some_iff.1 h
  refine ⟨rows C (ss.take j), rows C (ss.drop (j + 1)), ?_, ?_, fun s' => ?_⟩
  · conv => lhs; rw [← List.take_append_drop j ss, List.drop_eq_getElem_cons h1, h2]
    rw [rows_app, rows_cons, List.append_assoc]
  · rw [rows_len hC, List.length_take, Nat.min_eq_left (Nat.le_of_lt h1)]
  · rw [List.set_eq_take_append_cons_drop, if_pos h1, rows_app, rows_cons, List.append_assoc]
end Go.Proofs.Ytidphdlhghgglaa
/- A region that draws its order, in two parts: what only reads is taken first, wherever it stands; then the rest. No program is in sight. -/
namespace Go.Proofs.Ytidphdlhghgglaa
open Go.RowKit
section
variable {P : Program} {ops : Array Oper} {Q : Exit → Act → World → Prop} {md : Region.Mode} {S : World → Prop} {need : Nat → Bool}
/-- Whatever order is picked from here on; what 'need' names keeps S. -/
def wpAnyE (P : Program) (md : Region.Mode) (ops : Array Oper) (Q : Exit → Act → World → Prop) (S : World → Prop) (need : Nat → Bool) : Nat → Array Bool → Act → World → Prop
  | 0, listed, a, w => Region.ready md ops listed = [] ∧ Q .normal a w
  | fuel + 1, listed, a, w =>
    (Region.ready md ops listed = [] → Q .normal a w) ∧
    ∀ i ∈ Region.ready md ops listed, wpOp P ops Q i (fun a' w' => (need i = true → S w → S w') ∧ wpAnyE P md ops Q S need fuel (listed.setIfInBounds i true) a' w') a w
theorem wpAny_of_E : ∀ (fuel : Nat) (listed : Array Bool) (a : Act) (w : World), wpAnyE P md ops Q S need fuel listed a w → wpAny P md ops Q fuel listed a w
  | 0, _, _, _, h => h
  | fuel + 1, _, _, _, h => ⟨h.1, fun i hi => wpOp_mono (fun a' w' h' => wpAny_of_E fuel _ a' w' h'.2) (h.2 i hi)⟩
theorem E_of_any : ∀ (fuel : Nat) (listed : Array Bool) (a : Act) (w : World), (∀ j o, ops[j]? = some o → need j = true → listed.getD j true = true) → wpAny P md ops Q fuel listed a w → wpAnyE P md ops Q S need fuel listed a w
  | 0, _, _, _, _, h => h
  | fuel + 1, listed, a, w, hn, h => by
    refine ⟨h.1, fun i hi => ?_⟩
    obtain ⟨hun, oi, hoi, _⟩ := mem_ready.1 hi
    have hni : ¬ need i = true := fun e => by
      rw [hn i oi hoi e] at hun
      cases hun
    refine wpOp_mono (fun a' w' h' => ⟨fun e => absurd e hni, E_of_any fuel _ a' w' (fun j oj hj e => ?_) h'⟩) (h.2 i hi)
    by_cases hij : i = j
    · subst hij
      exact absurd e hni
    · rw [getD_set_ne true hij]
      exact hn j oj hj e
/-- One that yields wherever Y holds, Y being kept by all that may come before it. -/
theorem wpAnyE_first {Y : World → Prop} {i : Nat} {oi : Oper} {v : Value} (hi : ops[i]? = some oi) (hsel : ∀ (j : Nat) (o : Oper) cs b, ops[j]? = some o → o.op ≠ .select cs b)
    (hQ : ∀ c a w, Q (.panic c) (a.put oi.dst v) w → Q (.panic c) a w) (hYS : ∀ w w', Y w → (S w → S w') → Y w') :
    ∀ (fuel : Nat) (listed : Array Bool) (a : Act) (w : World), (∀ j oj, ops[j]? = some oj → j ≠ i → listed.getD j true = false → (∀ e ∈ oj.after, Region.binds md e = true → e.on ≠ i) → need j = true ∨ ∀ w, Y w) →
      (∀ j oj, ops[j]? = some oj → j ≠ i → listed.getD j true = false → (∀ e ∈ oj.after, Region.binds md e = true → e.on ≠ i) → oi.apart ops oj = true) →
      i ∈ Region.ready md ops listed → YieldsIf P ops Y oi v a → Y w →
      wpAnyE P md ops Q S need fuel (listed.setIfInBounds i true) (a.put oi.dst v) w → wpAnyE P md ops Q S need (fuel + 1) listed a w := by
  intro fuel
  induction fuel with
  | zero =>
    intro listed a w _ _ hr hy hY H
    refine ⟨fun h => (by rw [h] at hr; cases hr), fun j hj => ?_⟩
    by_cases hji : j = i
    · subst hji; exact hy.wpOp hi hY ⟨fun _ h => h, H⟩
    · have := ready_mono hj hji
      rw [H.1] at this
      cases this
  | succ fuel ih =>
    intro listed a w hneed hfree hr hy hY H
    refine ⟨fun h => (by rw [h] at hr; cases hr), fun j hj => ?_⟩
    by_cases hji : j = i
    · subst hji; exact hy.wpOp hi hY ⟨fun _ h => h, H⟩
    · have h1 := H.2 j (ready_mono hj hji)
      obtain ⟨hjun, oj, hoj, hall⟩ := mem_ready.1 hj
      have hnot : ∀ e ∈ oj.after, Region.binds md e = true → e.on ≠ i := fun e he hb heq => by
        have h1 := hall e he hb
        have h0 := (mem_ready.1 hr).1
        rw [heq] at h1
        rcases Nat.lt_or_ge i listed.size with h' | h'
        · simp [h'] at h0 h1; rw [h0] at h1; cases h1
        · simp [Array.getElem?_eq_none h'] at h1
      have hnd := hneed j oj hoj hji hjun hnot
      have h2 := wpOp_putIf hoj (hfree j oj hoj hji hjun hnot) (fun cs b => hsel i oi cs b hi) (fun cs b => hsel j oj cs b hoj) hQ hy h1
      have hlist : ∀ k, (listed.setIfInBounds j true).getD k true = false → listed.getD k true = false := fun k hun => by
        by_cases hjk : j = k
        · subst hjk; exact hjun
        · rw [getD_set_ne true hjk] at hun; exact hun
      refine wpOp_mono (fun a' w' h3 => ⟨h3.2.1, ih (listed.setIfInBounds j true) a' w' (fun k ok hk hki hun hno => hneed k ok hk hki (hlist k hun) hno) (fun k ok hk hki hun hno => hfree k ok hk hki (hlist k hun) hno) (ready_mono hr (Ne.symm hji)) h3.1 (hnd.elim (fun e => hYS w w' hY (h3.2.1 e)) (fun h => h w')) ?_⟩) h2
      rw [Array.setIfInBounds_comm _ _ hji]
      exact h3.2.2
end
section
variable {P : Program} {ops : Array Oper} {Q : Exit → Act → World → Prop} {n : Nat} {l : Env} {L L' : List Fa} {S : World → Prop} {need : Nat → Bool} {fuel : Nat} {listed : Array Bool} {d : Tmp} {op : Op} {ty : TypeId} {pos : String} {after : Array Edge} {v : Value}
/-- A region that draws its order: its first part. -/
def SX (P : Program) (ops : Array Oper) (Q : Exit → Act → World → Prop) (S : World → Prop) (need : Nat → Bool) (fuel : Nat) (listed : Array Bool) (n : Nat) (l : Env) (L : List Fa) : Prop := ∀ w, Sep w L → ∀ a, Sl n l a → wpAnyE P .any ops Q S need fuel listed a w
def freeOk (ops : Array Oper) (listed : Array Bool) (i : Nat) : Bool := Region.noSelect ops && Region.free .any ops listed i && (Region.ready .any ops listed).contains i
def stayOk (ops : Array Oper) (listed : Array Bool) (need : Nat → Bool) (i : Nat) : Bool :=
  (List.range ops.size).all fun j => j == i || listed.getD j true || need j || ((ops[j]?).map fun o => o.after.any fun e => Region.binds .any e && e.on == i).getD true
theorem stayOk_spec {i : Nat} (h : stayOk ops listed need i = true) (j : Nat) (oj : Oper) (hj : ops[j]? = some oj) (hji : j ≠ i) (hun : listed.getD j true = false) (hno : ∀ e ∈ oj.after, Region.binds .any e = true → e.on ≠ i) : need j = true := by
  unfold stayOk at h
  rw [List.all_eq_true] at h
  have hlt : j < ops.size := (Array.getElem?_eq_some_iff.1 hj).1
  have h1 := h j (List.mem_range.2 hlt)
  simp only [hj, Option.map_some, Option.getD_some, Bool.or_eq_true, beq_iff_eq, hun, Bool.false_eq_true, or_false] at h1
  rcases h1 with (h1 | h1) | h1
  · exact absurd h1 hji
  · exact h1
  · rw [Array.any_eq_true] at h1
    obtain ⟨k, hk, he⟩ := h1
    rw [Bool.and_eq_true, beq_iff_eq] at he
    exact absurd he.2 (hno _ (Array.getElem_mem hk) he.1)
theorem freeOk_spec {i : Nat} (h : freeOk ops listed i = true) : Region.noSelect ops = true ∧ Region.free .any ops listed i = true ∧ (Region.ready .any ops listed).contains i = true := by
  unfold freeOk at h
  simp only [Bool.and_eq_true] at h
  exact ⟨h.1.1, h.1.2, h.2⟩
theorem sx_drawn {id : Nat} {o : List Oper} (S : World → Prop) (need : Nat → Bool) (hm : P.follows .mixedOrders = true) (N : Nat) (hN : o.length = N) (h : SX P o.toArray Q S need N (Array.replicate N false) n l L) : SC P (.region id o.toArray true) Q n l L := by
  unfold SC WC
  intro w hw a hs
  refine wp_region_any hm (wpAny_of_E _ _ _ _ (S := S) (need := need) ?_)
  have h1 := h _ (hw.nil ((Fr.refl Nil w).drew)) a hs
  subst hN
  simpa using h1
/-- It looks at no memory. -/
theorem sx_pure (i : Nat) (hi : ops[i]? = some ⟨some d, op, ty, pos, after, none⟩) (hB : freeOk ops listed i = true) (hQ : NoP Q) (hr : Pu P (fun _ => True) n l op ty v) (hd : Nat.blt d n = true) (h : SX P ops Q S need fuel (listed.setIfInBounds i true) n ((d, v) :: l) L) : SX P ops Q S need (fuel + 1) listed n l L := fun w hw a hs => by
  obtain ⟨h1, h2, h3⟩ := freeOk_spec hB
  refine wpAnyE_first (Y := fun _ => True) hi (Region.noSelect_spec h1) (fun c a w => hQ c a _ _ w) (fun _ _ _ _ => trivial) fuel listed a w (fun _ _ _ _ _ _ => .inr fun _ => trivial) (Region.free_spec hi h2) (by simpa using h3) (.inl ⟨by simp [Region.wanted], fun W hW => ?_⟩) trivial (h w hw _ (hs.put hd v))
  unfold Pu at hr
  exact hr a _ _ _ _ W hs hW
/-- It reads what S keeps. -/
theorem sx_load (i : Nat) (hi : ops[i]? = some ⟨some d, op, ty, pos, after, none⟩) (hB : freeOk ops listed i = true) (hN : stayOk ops listed need i = true) (hQ : NoP Q) (hr : Pu P S n l op ty v) (hd : Nat.blt d n = true) (hS : ∀ w, Sep w L → S w) (h : SX P ops Q S need fuel (listed.setIfInBounds i true) n ((d, v) :: l) L) : SX P ops Q S need (fuel + 1) listed n l L := fun w hw a hs => by
  obtain ⟨h1, h2, h3⟩ := freeOk_spec hB
  refine wpAnyE_first (Y := S) hi (Region.noSelect_spec h1) (fun c a w => hQ c a _ _ w) (fun w w' hY e => e hY) fuel listed a w (fun j oj hj hji hun hno => .inl (stayOk_spec hN j oj hj hji hun hno)) (Region.free_spec hi h2) (by simpa using h3) (.inl ⟨by simp [Region.wanted], fun W hW => ?_⟩) (hS w hw) (h w hw _ (hs.put hd v))
  unfold Pu at hr
  exact hr a _ _ _ _ W hs hW
/-- All that was to be kept is done: the rest. -/
theorem sx_rest (hn : ((List.range ops.size).all fun j => !need j || listed.getD j true) = true) (h : SD P ops Q (fun _ => True) (fun _ => true) fuel listed n l L) : SX P ops Q S need fuel listed n l L := fun w hw a hs => by
  refine E_of_any _ _ _ _ (fun j oj hoj hj => ?_) ?_
  · have h1 := List.all_eq_true.1 hn j (List.mem_range.2 (Array.getElem?_eq_some_iff.1 hoj).1)
    simpa [hj] using h1
  · unfold SD WD at h
    exact wpAny_of_D _ _ _ _ (h w hw a hs)
theorem PuI.free {C : World → Prop} (h : PuI P [] l op v) : Pu P C n l op ty v := h.pu fun _ _ _ hf => by cases hf
attribute [irreducible] SX
end
end Go.Proofs.Ytidphdlhghgglaa
/- A region that draws its order: batches of what reads; what writes or calls goes by the steps of plain regions. No program is in sight. -/
namespace Go.Proofs.Ytidphdlhghgglaa
open Go.RowKit
section
variable {P : Program} {ops : Array Oper} {Q : Exit → Act → World → Prop} {n : Nat} {l : Env} {L L' : List Fa} {S : World → Prop} {need : Nat → Bool} {fuel : Nat} {listed : Array Bool} {o : Oper} {i : Nat}
theorem wpOp_of_list {K : Act → World → Prop} {a : Act} {w : World} (ho : ops[i]? = some o) (h : wpList P ops (Exit.then K Q) [o] a w) : wpOp P ops Q i K a w := by
  unfold wpOp
  rw [ho]
  exact h
/-- What stands behind an operation of such a region. -/
def DK (P : Program) (ops : Array Oper) (Q : Exit → Act → World → Prop) (S : World → Prop) (need : Nat → Bool) (fuel : Nat) (listed : Array Bool) (i : Nat) : Act → World → Prop := fun a w => (need i = true → S w) ∧ wpAnyD P .any ops Q S need fuel (listed.setIfInBounds i true) a w
theorem sa_sl (i : Nat) (ho : ops[i]? = some o) (h : SL P ops (Exit.then (DK P ops Q S need fuel listed i) Q) [o] n l L) : SA P ops Q S need fuel listed n l L i := sa_of fun w hw => by
  unfold WA
  exact fun a hs => wpOp_of_list ho ((h.to hw).get hs)
theorem sd_one (i : Nat) (hr : Region.ready .any ops listed = [i]) (h : SA P ops Q S need fuel listed n l L i) : SD P ops Q S need (fuel + 1) listed n l L := sd_of fun w hw => by
  have h1 := h.to hw
  unfold WA at h1
  unfold WD
  exact fun a hs => D_one hr (h1 a hs)
theorem sd_many (is : List Nat) (hr : Region.ready .any ops listed = is) (hne : is ≠ []) (h : ∀ i ∈ is, SA P ops Q S need fuel listed n l L i) : SD P ops Q S need (fuel + 1) listed n l L := sd_of fun w hw => by
  unfold WD
  intro a hs
  refine ⟨fun h0 => absurd (hr ▸ h0) hne, fun k hk => ?_⟩
  have h1 := (h k (hr ▸ hk)).to hw
  unfold WA at h1
  exact h1 a hs
theorem sd_three (i j k : Nat) (hr : Region.ready .any ops listed = [i, j, k]) (hi : SA P ops Q S need fuel listed n l L i) (hj : SA P ops Q S need fuel listed n l L j) (hk : SA P ops Q S need fuel listed n l L k) : SD P ops Q S need (fuel + 1) listed n l L :=
  sd_many [i, j, k] hr (by simp) (fun x hx => by
    simp only [List.mem_cons, List.not_mem_nil, or_false] at hx
    rcases hx with h | h | h <;> (subst h; assumption))
theorem sd_four (i j k m : Nat) (hr : Region.ready .any ops listed = [i, j, k, m]) (hi : SA P ops Q S need fuel listed n l L i) (hj : SA P ops Q S need fuel listed n l L j) (hk : SA P ops Q S need fuel listed n l L k) (hm : SA P ops Q S need fuel listed n l L m) : SD P ops Q S need (fuel + 1) listed n l L :=
  sd_many [i, j, k, m] hr (by simp) (fun x hx => by
    simp only [List.mem_cons, List.not_mem_nil, or_false] at hx
    rcases hx with h | h | h | h <;> (subst h; assumption))
/-- The operation is done. -/
theorem se_sd (hS : need i = true → ∀ w, Sep w L → S w) (h : SD P ops Q S need fuel (listed.setIfInBounds i true) n l L) : SE (Exit.then (DK P ops Q S need fuel listed i) Q) .normal n l L := se_of fun w hw => WE.mk fun a hs => by
  have h1 := h.to hw
  unfold WD at h1
  exact ⟨fun e => hS e w hw, h1 a hs⟩
theorem sd_new {id : Nat} {o : List Oper} (hm : P.follows .mixedOrders = true) (N : Nat) (hN : o.length = N) (h : SD P o.toArray Q (fun _ => True) (fun _ => true) N (Array.replicate N false) n l L) : SC P (.region id o.toArray true) Q n l L := sd_drawn _ _ hm N hN h

/-! Batches. -/
def GdOk (ops : Array Oper) (l : Env) : Option (Nat × Bool) → Bool → Prop
  | none, y => y = true
  | some (j, b), y => ∃ t c, (ops[j]?).bind (·.dst) = some t ∧ lk l t = some (.bool c) ∧ y = (b == c)
theorem GdOk.none : GdOk ops l none true := rfl
theorem GdOk.some {j t : Nat} {b c : Bool} (hj : (ops[j]?).bind (·.dst) = some t) (ht : lk l t = some (.bool c)) {y : Bool} (hy : (b == c) = y) : GdOk ops l (some (j, b)) y := ⟨t, c, hj, ht, hy.symm⟩
theorem GdOk.wanted {gd : Option (Nat × Bool)} {y : Bool} {dst : Option Tmp} {op : Op} {ty : TypeId} {pos : String} {after : Array Edge} {a : Act} (h : GdOk ops l gd y) (hs : Sl n l a) : Region.wanted ⟨dst, op, ty, pos, after, gd⟩ (yielded ops a.tmps) = y := by
  cases gd with
  | none =>
    cases h
    rfl
  | some p =>
    obtain ⟨j, b⟩ := p
    obtain ⟨t, c, h1, h2, h3⟩ := h
    unfold Region.wanted
    simp only [hs.yield h1 h2]
    rw [h3]
    cases b <;> cases c <;> rfl
/-- Does number j wait for number i, by itself or through others that did not come up yet? -/
def waitsFor (ops : Array Oper) (listed : Array Bool) (i : Nat) : Nat → Nat → Bool
  | 0, _ => false
  | f + 1, j => !listed.getD j true && ((ops[j]?).map fun o => o.after.any fun e => Region.binds .any e && (e.on == i || waitsFor ops listed i f e.on)).getD false
def stayOk2 (ops : Array Oper) (listed : Array Bool) (need : Nat → Bool) (i : Nat) : Bool :=
  (List.range ops.size).all fun j => j == i || listed.getD j true || need j || waitsFor ops listed i ops.size j
theorem stayOk2_spec {i : Nat} (h : stayOk2 ops listed need i = true) (j : Nat) (oj : Oper) (hj : ops[j]? = some oj) (hji : j ≠ i) (hun : listed.getD j true = false) (hR : ¬ ∃ f, waitsFor ops listed i f j = true) : need j = true := by
  unfold stayOk2 at h
  rw [List.all_eq_true] at h
  have h1 := h j (List.mem_range.2 (Array.getElem?_eq_some_iff.1 hj).1)
  simp only [Bool.or_eq_true, beq_iff_eq, hun, Bool.false_eq_true, or_false] at h1
  rcases h1 with (h1 | h1) | h1
  · exact absurd h1 hji
  · exact h1
  · exact absurd ⟨_, h1⟩ hR
theorem waitsFor_un {i j f : Nat} (h : waitsFor ops listed i f j = true) : listed.getD j true = false := by
  cases f with
  | zero => cases h
  | succ f =>
    unfold waitsFor at h
    rw [Bool.and_eq_true] at h
    simpa using h.1
theorem waitsFor_edge {i j f : Nat} {oj : Oper} (h : waitsFor ops listed i f j = true) (hj : ops[j]? = some oj) : ∃ e ∈ oj.after, Region.binds .any e = true ∧ (e.on = i ∨ ∃ f, waitsFor ops listed i f e.on = true) := by
  cases f with
  | zero => cases h
  | succ f =>
    unfold waitsFor at h
    rw [Bool.and_eq_true, hj] at h
    have h2 := h.2
    simp only [Option.map_some, Option.getD_some, Array.any_eq_true] at h2
    obtain ⟨k, hk, he⟩ := h2
    rw [Bool.and_eq_true, Bool.or_eq_true, beq_iff_eq] at he
    exact ⟨_, Array.getElem_mem hk, he.1, he.2.imp id (fun h => ⟨f, h⟩)⟩
/-- One that yields wherever Y holds; what may come before it keeps Y. -/
theorem wpAnyE_first2 {Y : World → Prop} {R : Nat → Prop} {i : Nat} {oi : Oper} {v : Value} (hi : ops[i]? = some oi) (hsel : ∀ (j : Nat) (o : Oper) cs b, ops[j]? = some o → o.op ≠ .select cs b)
    (hQ : ∀ c a w, Q (.panic c) (a.put oi.dst v) w → Q (.panic c) a w) (hYS : ∀ w w', Y w → (S w → S w') → Y w')
    (hR : ∀ j oj, R j → ops[j]? = some oj → ∃ e ∈ oj.after, Region.binds .any e = true ∧ (e.on = i ∨ R e.on)) :
    ∀ (fuel : Nat) (listed : Array Bool) (a : Act) (w : World), (∀ j oj, ops[j]? = some oj → j ≠ i → listed.getD j true = false → ¬ R j → need j = true ∨ ∀ w, Y w) → (∀ j, R j → listed.getD j true = false) →
      (∀ j oj, ops[j]? = some oj → j ≠ i → listed.getD j true = false → (∀ e ∈ oj.after, Region.binds .any e = true → e.on ≠ i) → oi.apart ops oj = true) →
      i ∈ Region.ready .any ops listed → YieldsIf P ops Y oi v a → Y w →
      wpAnyE P .any ops Q S need fuel (listed.setIfInBounds i true) (a.put oi.dst v) w → wpAnyE P .any ops Q S need (fuel + 1) listed a w := by
  intro fuel
  induction fuel with
  | zero =>
    intro listed a w _ _ _ hr hy hY H
    refine ⟨fun h => (by rw [h] at hr; cases hr), fun j hj => ?_⟩
    by_cases hji : j = i
    · subst hji; exact hy.wpOp hi hY ⟨fun _ h => h, H⟩
    · have := ready_mono hj hji
      rw [H.1] at this
      cases this
  | succ fuel ih =>
    intro listed a w hneed hRu hfree hr hy hY H
    refine ⟨fun h => (by rw [h] at hr; cases hr), fun j hj => ?_⟩
    by_cases hji : j = i
    · subst hji; exact hy.wpOp hi hY ⟨fun _ h => h, H⟩
    · have h1 := H.2 j (ready_mono hj hji)
      obtain ⟨hjun, oj, hoj, hall⟩ := mem_ready.1 hj
      have hiun : listed.getD i true = false := (mem_ready.1 hr).1
      have hlt : ∀ k, listed.getD k true = false → listed.getD k false = false := fun k h => by
        rcases Nat.lt_or_ge k listed.size with h' | h'
        · simp [h'] at h ⊢; exact h
        · simp [Array.getElem?_eq_none h']
      have hnot : ∀ e ∈ oj.after, Region.binds .any e = true → e.on ≠ i := fun e he hb heq => by
        have h1 := hall e he hb
        rw [heq, hlt i hiun] at h1
        cases h1
      have hnR : ¬ R j := fun hRj => by
        obtain ⟨e, he, hb, h2⟩ := hR j oj hRj hoj
        rcases h2 with h2 | h2
        · exact hnot e he hb h2
        · have h1 := hall e he hb
          rw [hlt _ (hRu _ h2)] at h1
          cases h1
      have hnd := hneed j oj hoj hji hjun hnR
      have h2 := wpOp_putIf hoj (hfree j oj hoj hji hjun hnot) (fun cs b => hsel i oi cs b hi) (fun cs b => hsel j oj cs b hoj) hQ hy h1
      have hlist : ∀ k, (listed.setIfInBounds j true).getD k true = false → listed.getD k true = false := fun k hun => by
        by_cases hjk : j = k
        · subst hjk; exact hjun
        · rw [getD_set_ne true hjk] at hun; exact hun
      refine wpOp_mono (fun a' w' h3 => ⟨h3.2.1, ih (listed.setIfInBounds j true) a' w' (fun k ok hk hki hun hno => hneed k ok hk hki (hlist k hun) hno) (fun k hk => ?_) (fun k ok hk hki hun hno => hfree k ok hk hki (hlist k hun) hno) (ready_mono hr (Ne.symm hji)) h3.1 (hnd.elim (fun e => hYS w w' hY (h3.2.1 e)) (fun h => h w')) ?_⟩) h2
      · rw [getD_set_ne true (fun e : j = k => hnR (e ▸ hk))]
        exact hRu k hk
      · rw [Array.setIfInBounds_comm _ _ hji]
        exact h3.2.2
/-- One that yields while S holds; what may come before it (without waiting for it, by itself or through others) keeps S. -/
theorem wpAnyD_first2 {R : Nat → Prop} {i : Nat} {oi : Oper} {v : Value} (hi : ops[i]? = some oi) (hsel : ∀ (j : Nat) (o : Oper) cs b, ops[j]? = some o → o.op ≠ .select cs b)
    (hQ : ∀ c a w, Q (.panic c) (a.put oi.dst v) w → Q (.panic c) a w)
    (hR : ∀ j oj, R j → ops[j]? = some oj → ∃ e ∈ oj.after, Region.binds .any e = true ∧ (e.on = i ∨ R e.on)) :
    ∀ (fuel : Nat) (listed : Array Bool) (a : Act) (w : World), (∀ j oj, ops[j]? = some oj → j ≠ i → listed.getD j true = false → ¬ R j → need j = true) → (∀ j, R j → listed.getD j true = false) →
      (∀ j oj, ops[j]? = some oj → j ≠ i → listed.getD j true = false → (∀ e ∈ oj.after, Region.binds .any e = true → e.on ≠ i) → oi.apart ops oj = true) →
      i ∈ Region.ready .any ops listed → YieldsIf P ops S oi v a → S w →
      wpAnyD P .any ops Q S need fuel (listed.setIfInBounds i true) (a.put oi.dst v) w → wpAnyD P .any ops Q S need (fuel + 1) listed a w := by
  intro fuel
  induction fuel with
  | zero =>
    intro listed a w _ _ _ hr hy hY H
    refine ⟨fun h => (by rw [h] at hr; cases hr), fun j hj => ?_⟩
    by_cases hji : j = i
    · subst hji; exact hy.wpOp hi hY ⟨fun _ => hY, H⟩
    · have := ready_mono hj hji
      rw [H.1] at this
      cases this
  | succ fuel ih =>
    intro listed a w hneed hRu hfree hr hy hY H
    refine ⟨fun h => (by rw [h] at hr; cases hr), fun j hj => ?_⟩
    by_cases hji : j = i
    · subst hji; exact hy.wpOp hi hY ⟨fun _ => hY, H⟩
    · have h1 := H.2 j (ready_mono hj hji)
      obtain ⟨hjun, oj, hoj, hall⟩ := mem_ready.1 hj
      have hiun : listed.getD i true = false := (mem_ready.1 hr).1
      have hlt : ∀ k, listed.getD k true = false → listed.getD k false = false := fun k h => by
        rcases Nat.lt_or_ge k listed.size with h' | h'
        · simp [h'] at h ⊢; exact h
        · simp [Array.getElem?_eq_none h']
      have hnot : ∀ e ∈ oj.after, Region.binds .any e = true → e.on ≠ i := fun e he hb heq => by
        have h1 := hall e he hb
        rw [heq, hlt i hiun] at h1
        cases h1
      have hnR : ¬ R j := fun hRj => by
        obtain ⟨e, he, hb, h2⟩ := hR j oj hRj hoj
        rcases h2 with h2 | h2
        · exact hnot e he hb h2
        · have h1 := hall e he hb
          rw [hlt _ (hRu _ h2)] at h1
          cases h1
      have hnd := hneed j oj hoj hji hjun hnR
      have h2 := wpOp_putIf hoj (hfree j oj hoj hji hjun hnot) (fun cs b => hsel i oi cs b hi) (fun cs b => hsel j oj cs b hoj) hQ hy h1
      have hlist : ∀ k, (listed.setIfInBounds j true).getD k true = false → listed.getD k true = false := fun k hun => by
        by_cases hjk : j = k
        · subst hjk; exact hjun
        · rw [getD_set_ne true hjk] at hun; exact hun
      refine wpOp_mono (fun a' w' h3 => ⟨h3.2.1, ih (listed.setIfInBounds j true) a' w' (fun k ok hk hki hun hno => hneed k ok hk hki (hlist k hun) hno) (fun k hk => ?_) (fun k ok hk hki hun hno => hfree k ok hk hki (hlist k hun) hno) (ready_mono hr (Ne.symm hji)) h3.1 (h3.2.1 hnd) ?_⟩) h2
      · rw [getD_set_ne true (fun e : j = k => hnR (e ▸ hk))]
        exact hRu k hk
      · rw [Array.setIfInBounds_comm _ _ hji]
        exact h3.2.2
theorem D_of_any : ∀ (fuel : Nat) (listed : Array Bool) (a : Act) (w : World), wpAny P .any ops Q fuel listed a w → wpAnyD P .any ops Q (fun _ => True) need fuel listed a w
  | 0, _, _, _, h => h
  | fuel + 1, _, _, _, h => ⟨h.1, fun i hi => wpOp_mono (fun a' w' h' => ⟨fun _ => trivial, D_of_any fuel _ a' w' h'⟩) (h.2 i hi)⟩
/-- All of some facts, and the rest K as a whole. -/
def S2 (K L0 : List Fa) (W : World) : Prop := Sep W K ∧ AllP W L0
theorem PuI.all2 {K : List Fa} {op : Op} {ty : TypeId} {v : Value} (h : PuI P L l op v) : Pu P (S2 K L) n l op ty v := h.pu fun _ hW _ hf => hW.2.at hf
/-- Now a batch of what reads. -/
theorem sd_batch (need : Nat → Bool) (h : SX P ops Q (In L) need fuel listed n l L) : SD P ops Q (fun _ => True) (fun _ => true) fuel listed n l L := sd_of fun w hw => by
  unfold WD
  intro a hs
  unfold SX at h
  exact D_of_any _ _ _ _ (wpAny_of_E _ _ _ _ (h w hw a hs))
section
variable {d : Tmp} {op : Op} {ty : TypeId} {pos : String} {after : Array Edge} {v : Value} {gd : Option (Nat × Bool)}
theorem sx_yes (i : Nat) (hi : ops[i]? = some ⟨some d, op, ty, pos, after, gd⟩) (hg : GdOk ops l gd true) (hB : freeOk ops listed i = true) (hN : stayOk2 ops listed need i = true) (hQ : NoP Q) (hr : Pu P S n l op ty v) (hd : Nat.blt d n = true) (hS : ∀ w, Sep w L → S w) (h : SX P ops Q S need fuel (listed.setIfInBounds i true) n ((d, v) :: l) L) : SX P ops Q S need (fuel + 1) listed n l L := by
  unfold SX at h ⊢
  intro w hw a hs
  obtain ⟨h1, h2, h3⟩ := freeOk_spec hB
  refine wpAnyE_first2 (Y := S) (R := fun j => ∃ f, waitsFor ops listed i f j = true) hi (Region.noSelect_spec h1) (fun c a w => hQ c a _ _ w) (fun w w' hY e => e hY) (fun j oj ⟨f, hf⟩ hj => waitsFor_edge hf hj) fuel listed a w (fun j oj hj hji hun hnR => .inl (stayOk2_spec hN j oj hj hji hun hnR)) (fun j ⟨f, hf⟩ => waitsFor_un hf) (Region.free_spec hi h2) (by simpa using h3) (.inl ⟨hg.wanted hs, fun W hW => ?_⟩) (hS w hw) (h w hw _ (hs.put hd v))
  unfold Pu at hr
  exact hr a _ _ _ _ W hs hW
/-- One of a region where S is held all the while. -/
theorem sd_yes (i : Nat) (hi : ops[i]? = some ⟨some d, op, ty, pos, after, gd⟩) (hg : GdOk ops l gd true) (hB : (Region.noSelect ops && Region.free .any ops listed i && (Region.ready .any ops listed).contains i && needOk .any ops need i) = true)
    (hQ : NoP Q) (hr : Pu P S n l op ty v) (hd : Nat.blt d n = true) (hS : ∀ w, Sep w L → S w) (h : SD P ops Q S need fuel (listed.setIfInBounds i true) n ((d, v) :: l) L) : SD P ops Q S need (fuel + 1) listed n l L := sd_of fun w hw => by
  have h1 := h.to hw
  unfold WD at h1 ⊢
  unfold Pu at hr
  exact fun a hs => D_take hi hB hQ (.inl ⟨hg.wanted hs, fun W hW => hr a _ _ _ _ W hs hW⟩) (hS w hw) (h1 _ (hs.put hd v))
theorem sd_yes2 (i : Nat) (hi : ops[i]? = some ⟨some d, op, ty, pos, after, gd⟩) (hg : GdOk ops l gd true) (hB : freeOk ops listed i = true) (hN : stayOk2 ops listed need i = true)
    (hQ : NoP Q) (hr : Pu P S n l op ty v) (hd : Nat.blt d n = true) (hS : ∀ w, Sep w L → S w) (h : SD P ops Q S need fuel (listed.setIfInBounds i true) n ((d, v) :: l) L) : SD P ops Q S need (fuel + 1) listed n l L := sd_of fun w hw => by
  have h1 := h.to hw
  unfold WD at h1 ⊢
  unfold Pu at hr
  intro a hs
  obtain ⟨b1, b2, b3⟩ := freeOk_spec hB
  exact wpAnyD_first2 (R := fun j => ∃ f, waitsFor ops listed i f j = true) hi (Region.noSelect_spec b1) (fun c a w => hQ c a _ _ w) (fun j oj ⟨f, hf⟩ hj => waitsFor_edge hf hj) fuel listed a w (fun j oj hj hji hun hnR => stayOk2_spec hN j oj hj hji hun hnR) (fun j ⟨f, hf⟩ => waitsFor_un hf) (Region.free_spec hi b2) (by simpa using b3) (.inl ⟨hg.wanted hs, fun W hW => hr a _ _ _ _ W hs hW⟩) (hS w hw) (h1 _ (hs.put hd v))
/-- One that is passed by. -/
theorem sd_off2 (i : Nat) (hi : ops[i]? = some ⟨some d, op, ty, pos, after, gd⟩) (hg : GdOk ops l gd false) (hB : freeOk ops listed i = true) (hN : stayOk2 ops listed need i = true)
    (hQ : NoP Q) (hd : Nat.blt d n = true) (hS : ∀ w, Sep w L → S w) (h : SD P ops Q S need fuel (listed.setIfInBounds i true) n ((d, undef) :: l) L) : SD P ops Q S need (fuel + 1) listed n l L := sd_of fun w hw => by
  have h1 := h.to hw
  unfold WD at h1 ⊢
  intro a hs
  obtain ⟨b1, b2, b3⟩ := freeOk_spec hB
  exact wpAnyD_first2 (R := fun j => ∃ f, waitsFor ops listed i f j = true) hi (Region.noSelect_spec b1) (fun c a w => hQ c a _ _ w) (fun j oj ⟨f, hf⟩ hj => waitsFor_edge hf hj) fuel listed a w (fun j oj hj hji hun hnR => stayOk2_spec hN j oj hj hji hun hnR) (fun j ⟨f, hf⟩ => waitsFor_un hf) (Region.free_spec hi b2) (by simpa using b3) (.inr ⟨hg.wanted hs, rfl⟩) (hS w hw) (h1 _ (hs.put hd undef))
theorem sx_off (i : Nat) (hi : ops[i]? = some ⟨some d, op, ty, pos, after, gd⟩) (hg : GdOk ops l gd false) (hB : freeOk ops listed i = true) (hQ : NoP Q) (hd : Nat.blt d n = true) (h : SX P ops Q S need fuel (listed.setIfInBounds i true) n ((d, undef) :: l) L) : SX P ops Q S need (fuel + 1) listed n l L := by
  unfold SX at h ⊢
  intro w hw a hs
  obtain ⟨h1, h2, h3⟩ := freeOk_spec hB
  exact wpAnyE_first2 (Y := fun _ => True) (R := fun j => ∃ f, waitsFor ops listed i f j = true) hi (Region.noSelect_spec h1) (fun c a w => hQ c a _ _ w) (fun _ _ _ _ => trivial) (fun j oj ⟨f, hf⟩ hj => waitsFor_edge hf hj) fuel listed a w (fun _ _ _ _ _ _ => .inr fun _ => trivial) (fun j ⟨f, hf⟩ => waitsFor_un hf) (Region.free_spec hi h2) (by simpa using h3) (.inr ⟨hg.wanted hs, rfl⟩) trivial (h w hw _ (hs.put hd undef))
end
end
end Go.Proofs.Ytidphdlhghgglaa
/- More about facts: one out of many, and back. No program is in sight. -/
namespace Go.Proofs.Ytidphdlhghgglaa
open Go.RowKit
theorem Pick.foot {f : Fa} {L L' : List Fa} (h : Pick f L L') (k : Nat) : foot L k ↔ foot (f :: L') k := by
  constructor
  · rintro ⟨g, hg, hk⟩
    refine ⟨g, ?_, hk⟩
    rcases (h.mem g).1 hg with e | e
    · exact e ▸ List.mem_cons_self ..
    · exact List.mem_cons_of_mem _ e
  · rintro ⟨g, hg, hk⟩
    refine ⟨g, (h.mem g).2 ?_, hk⟩
    rcases List.mem_cons.1 hg with e | e
    · exact .inl e
    · exact .inr e
theorem Pick.back {f : Fa} {L L' : List Fa} (h : Pick f L L') : Ent_ (f :: L') L := by
  induction h with
  | here => exact fun w hw => hw
  | there hp ih => exact fun w hw => Ent_.tail ih (fun k hk => (hp.foot k).1 hk) w (hw.sub (.cons (.there .here) (.cons .here .refl)))
theorem Pick.out {f : Fa} {L L' : List Fa} (h : Pick f L L') : Ent_ L (f :: L') := fun _ hw => hw.pick h
theorem pick_mid {f : Fa} : ∀ (A : List Fa) {B : List Fa}, Pick f (A ++ f :: B) (A ++ B)
  | [], _ => .here
  | _ :: A, _ => .there (pick_mid A)
theorem Ent_.star_of {G G' K : List Fa} (h : Ent_ (G ++ K) (G' ++ K)) : Ent_ (star G :: K) (star G' :: K) := fun w hw => star_in w (h w (star_out w hw))
theorem bytes_set (xs : List Int) (k : Nat) (v : Int) : (bytes xs).set k (.int .u8 v) = bytes (xs.set k v) := by
  unfold bytes
  rw [List.map_set]
theorem bytes_at {xs : List Int} {k : Nat} (h : k < xs.length) : nth (bytes xs) k = some (.int .u8 xs[k]) := by
  rw [nth_eq]
  simp [bytes, h]
theorem IsBytes.set {xs : List Int} (h : IsBytes xs) (k : Nat) {v : Int} (h0 : 0 ≤ v) (h1 : v < 256) : IsBytes (xs.set k v) := fun x hx => by
  rcases List.mem_or_eq_of_mem_set hx with e | e
  · exact h x e
  · subst e
    exact ⟨h0, h1⟩
theorem two_out {f g : Fa} {A B K : List Fa} : Ent_ (star (A ++ f :: g :: B) :: K) (star (A ++ B) :: f :: g :: K) := fun w hw => by
  have h1 := star_out w hw
  rw [List.append_assoc, List.cons_append, List.cons_append] at h1
  have h2 := (Pick.there (pick_mid A)).out w ((pick_mid A).out w h1)
  rw [← List.append_assoc] at h2
  have h3 := (Pick.there (pick_mid (A ++ B))).back w h2
  exact star_in w ((pick_mid (A ++ B)).back w h3)
theorem two_in {f g : Fa} {A B K : List Fa} : Ent_ (star (A ++ B) :: f :: g :: K) (star (A ++ f :: g :: B) :: K) := fun w hw => by
  have h1 := star_out w hw
  have h2 := (Pick.there (pick_mid (A ++ B))).out w ((pick_mid (A ++ B)).out w h1)
  rw [List.append_assoc] at h2
  have h3 := (Pick.there (pick_mid A)).back w h2
  have h4 := (pick_mid A).back w h3
  refine star_in w ?_
  rw [List.append_assoc, List.cons_append, List.cons_append]
  exact h4
end Go.Proofs.Ytidphdlhghgglaa
