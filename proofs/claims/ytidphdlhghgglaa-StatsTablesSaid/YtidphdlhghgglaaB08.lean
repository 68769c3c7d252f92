/- Several texts of one claim, one behind the other (App, Srt, Fs, Fl, Fo, Sm). -/
import Derived.Test.YtidphdlhghgglaaB05
import Derived.Deep.AppendSrc
import Derived.Shelf.SlSortCmp.NoneTotal
import Derived.Test.YtidphdlhghgglaaB01
import Derived.WalkKit
import Derived.WalkLawsBesides
import Derived.Laws.Cover2
import Derived.Test.YtidphdlhghgglaaB06
/- append where there is no room, and of nothing. No program is in sight. -/
namespace Go.Proofs.Ytidphdlhghgglaa
open Go.RowKit
section
variable {P : Program} {ops : Array Oper} {Q : Exit → Act → World → Prop} {n : Nat} {l : Env} {L L' : List Fa} {rest : List Oper} {d : Tmp} {ty t t' e : TypeId} {pos : String} {after : Array Edge} {x y : Operand} {k m c cb size bytes : Nat} {A B : Option Addr} {xs ys : List Value} {z : Value}
/-- A slice whose room is its length: a new row. -/
theorem sl_app_full (hx : ev l x = some (.slice A k k)) (hr0 : Vw L (fun w => Reads w size A k xs)) (hk : 0 < k) (hy : ev l y = some (.slice B m cb)) (hr : Vw L (fun w => Reads w size B m ys)) (hm : 0 < m) (ht : P.underlying t = some (.slice e)) (hi : (P.info? e).map (fun i => (i.zero, i.size, i.bytes)) = some (some z, size, bytes)) (hzs : z.cells.size = size)
    (hd : Nat.blt d n = true) (h63 : k + m ≤ maxLen) (hby : (k + m) * bytes ≤ 140737488355328)
    (h : ∀ g c', SL P ops Q rest n ((d, .slice (some ⟨g, 0, none⟩) (k + m) c') :: l) (own e size (some ⟨g, 0, none⟩) (k + m) c' (xs ++ ys) :: L)) : SL P ops Q (⟨some d, .call { callee := .builtin .append, args := #[x, y], argTypes := #[t, t] }, ty, pos, after, none⟩ :: rest) n l L := sl_of fun w hw => by
  obtain ⟨i, hi0, hz0, hz1, hz2⟩ := info_parts hi
  subst hz1 hz2
  have hR0 := hr0 w hw
  have hR := hr w hw
  obtain ⟨ad, rfl, hc0⟩ := hR0.2 hk
  obtain ⟨bd, rfl, hc1⟩ := hR.2 hm
  have h63' : ((k + m : Nat) : Int) ≤ 9223372036854775807 := by
    have := h63
    simp [maxLen] at this
    omega
  have hrun := run_append_grow (P := P) (w := w) t ty e i z ht hi0 hz0 ad k k xs hR0.1 hc0 bd m cb ys hR.1 hc1 (by omega) h63' (growslice_fits (by omega) hby)
  have hge := grownCap_ge w (k + m) k e
  have hle := grownCap_le_maxLen w (k + m) k e h63
  refine wl_run (v := .slice (some ⟨w.heap.size, 0, none⟩) (k + m) (grownCap w (k + m) k e)) (w' := w.drew.alloc (.cells (xs.toArray ++ ys.toArray ++ Builtin.zeroCells z.cells (grownCap w (k + m) k e - (k + m))) e)) ?_ hd ((h w.heap.size _).to (hw.new ((Fr.refl Nil w).drew.alloc _) ?_ (fun j hj => ?_)))
  · unfold Ru
    intro a _ _ _ _ hs
    simp only [execOp, resolve, List.map_toArray, List.map_cons, List.map_nil, hs.ev hx, hs.ev hy]
    simp only [invoke, builtin, Sem.run_bind, Sem.run_pure, Result.andThen_ok, hrun]
  · have h0 := hR0.1
    have h1 := hR.1
    have h2 : (grownCap w (k + m) k e - (k + m)) * i.size = grownCap w (k + m) k e * i.size - (k + m) * i.size := Nat.sub_mul _ _ _
    have h3 : (k + m) * i.size ≤ grownCap w (k + m) k e * i.size := Nat.mul_le_mul_right _ hge
    have h4 : (k + m) * i.size = k * i.size + m * i.size := Nat.add_mul _ _ _
    refine own_mk (own_close (cur := xs.toArray ++ ys.toArray ++ Builtin.zeroCells z.cells (grownCap w (k + m) k e - (k + m))) (Blk.new w.drew e _) hge hle ?_ ?_ ?_)
    · simp only [Array.size_append, List.size_toArray, Builtin.zeroCells, Array.size_map, Array.size_range, hzs]
      omega
    · simp only [Array.toList_append, List.toList_toArray]
      rw [List.take_left']
      rw [List.length_append]
      omega
    · rw [List.length_append]
      omega
  · rw [own_F] at hj
    exact Nat.le_of_eq (Option.some.inj hj)
/-- Nothing is appended. -/
theorem sl_app_none (hx : ev l x = some (.slice A k c)) (hkc : k ≤ c) (hy : ev l y = some (.slice B 0 cb)) (ht : P.underlying t = some (.slice e)) (hi : (P.info? e).map (fun i => (i.zero, i.size, i.bytes)) = some (some z, size, bytes)) (hd : Nat.blt d n = true)
    (h : SL P ops Q rest n ((d, .slice A k c) :: l) L) : SL P ops Q (⟨some d, .call { callee := .builtin .append, args := #[x, y], argTypes := #[t, t] }, ty, pos, after, none⟩ :: rest) n l L := sl_of fun w hw => by
  obtain ⟨i, hi0, hz0, hz1, hz2⟩ := info_parts hi
  subst hz1 hz2
  have hrun : (Builtin.append_ #[t, t] ty #[.slice A k c, .slice B 0 cb]).run P w = .ok (.slice A k c) w := by
    have h2 : ∀ W : World, (Builtin.firstCells i.size 0 (.slice B 0 cb)).run P W = .ok #[] W := fun W => by
      cases B with
      | none => simp [Builtin.firstCells]
      | some b => simpa using run_firstCells_some (P := P) W i.size 0 b 0 cb [] (by simp) (by simp)
    cases A with
    | none => simp [Builtin.append_, run_underlying ht, sizeOf, typeInfo, hi0, Builtin.lenOf, hkc, h2]
    | some a => simp [Builtin.append_, run_underlying ht, sizeOf, typeInfo, hi0, Builtin.lenOf, hkc, h2, storeCells]
  refine wl_run (v := .slice A k c) (w' := w) ?_ hd (h.to hw)
  unfold Ru
  intro a _ _ _ _ hs
  simp only [execOp, resolve, List.map_toArray, List.map_cons, List.map_nil, hs.ev hx, hs.ev hy]
  simp only [invoke, builtin, Sem.run_bind, Sem.run_pure, Result.andThen_ok, hrun]
/-- A slice whose room is its length, read only: what there is behind it is a new row, or nothing new. -/
theorem sl_app_rd {L0 : List Fa} (hx : ev l x = some (.slice A k k)) (hr0 : Vw L0 (fun w => Reads w size A k xs)) (hs0 : Sub L L0) (hy : ev l y = some (.slice B m cb)) (hr : Vw L (fun w => Reads w size B m ys)) (h1 : ∀ u ∈ ys, u.oneCell' = true) (ht : P.underlying t = some (.slice e)) (hi : (P.info? e).map (fun i => (i.zero, i.size, i.bytes)) = some (some z, size, bytes)) (hzs : z.cells.size = size) (hsz : 0 < size)
    (hd : Nat.blt d n = true) (h63 : k + m ≤ maxLen) (hby : (k + m) * bytes ≤ 140737488355328)
    (h : ∀ A' c' F, k + m ≤ c' → Vw (F :: L0) (fun w => Reads w size A' (k + m) (xs ++ ys)) → SL P ops Q rest n ((d, .slice A' (k + m) c') :: l) (F :: L)) : SL P ops Q (⟨some d, .call { callee := .builtin .append, args := #[x, y], argTypes := #[t, t] }, ty, pos, after, none⟩ :: rest) n l L := by
  by_cases hm : m = 0
  · subst hm
    refine sl_app_none hx (Nat.le_refl _) hy ht hi hd ?_
    refine sl_know (φ := ys = []) (fun w hw => List.eq_nil_of_length_eq_zero (by have := (hr w hw).1; omega)) ?_
    rintro rfl
    have h2 := h A k (star []) (Nat.le_refl _) (fun w hw => by rw [List.append_nil]; exact hr0 w hw.tl)
    exact sl_sub (.free (fun w => by unfold star; exact (Sep.start w).sub Sub.nil) (fun j hj => by unfold star at hj; exact foot_nil hj) .refl) h2
  by_cases hk : k = 0
  · subst hk
    have hnew : ∀ L0 : List Fa, Vw L0 (fun w => Reads w size B m ys) → (∀ A' c', SL P ops Q rest n ((d, .slice A' m c') :: l) (own e size A' m c' ys :: L0)) → A = none → SL P ops Q (⟨some d, .call { callee := .builtin .append, args := #[x, y], argTypes := #[t, t] }, ty, pos, after, none⟩ :: rest) n l L0 := fun L0 hr' hk' hA => by
      subst hA
      exact sl_app_nil hx hy hr' h1 ht hi hzs hsz hd (by omega) (by simpa using hby) hk'
    refine sl_know (φ := xs = []) (fun w hw => List.eq_nil_of_length_eq_zero (by have := (hr0 w (hw.sub hs0)).1; omega)) ?_
    rintro rfl
    simp only [Nat.zero_add, List.nil_append] at h h63 hby
    cases A with
    | none =>
      refine hnew L hr (fun A' c' => ?_) rfl
      refine sl_know (fun w hw => (own_len (e := e) (size := size) (A := A') hw .here).2) ?_
      rintro ⟨l1, -⟩
      exact h A' c' _ l1 (Vw.of_own .here)
    | some ad =>
      refine sl_of fun w hw => ?_
      obtain ⟨i, hi0, hz0, hz1, hz2⟩ := info_parts hi
      subst hz1 hz2
      have hR := hr w hw
      obtain ⟨bd, rfl, hc1⟩ := hR.2 (by omega)
      have h63' : ((0 + m : Nat) : Int) ≤ 9223372036854775807 := by
        have := h63
        simp [maxLen] at this
        omega
      have hrun := run_append_grow (P := P) (w := w) t ty e i z ht hi0 hz0 ad 0 0 [] (by simp) (fun j v hj => by simp at hj) bd m cb ys hR.1 hc1 (by omega) h63' (growslice_fits (by omega) (by rw [Nat.zero_add]; exact hby))
      rw [Nat.zero_add] at hrun
      have hge := grownCap_ge w m 0 e
      have hle := grownCap_le_maxLen w m 0 e h63
      refine wl_run (v := .slice (some ⟨w.heap.size, 0, none⟩) m (grownCap w m 0 e)) (w' := w.drew.alloc (.cells (([] : List Value).toArray ++ ys.toArray ++ Builtin.zeroCells z.cells (grownCap w m 0 e - m)) e)) ?_ hd ((h (some ⟨w.heap.size, 0, none⟩) _ (own e i.size (some ⟨w.heap.size, 0, none⟩) m (grownCap w m 0 e) ys) hge (Vw.of_own .here)).to (hw.new ((Fr.refl Nil w).drew.alloc _) ?_ (fun j hj => ?_)))
      · unfold Ru
        intro a _ _ _ _ hs
        simp only [execOp, resolve, List.map_toArray, List.map_cons, List.map_nil, hs.ev hx, hs.ev hy]
        simp only [invoke, builtin, Sem.run_bind, Sem.run_pure, Result.andThen_ok, hrun]
      · have h1 := hR.1
        have h2 : (grownCap w m 0 e - m) * i.size = grownCap w m 0 e * i.size - m * i.size := Nat.sub_mul _ _ _
        have h3 : m * i.size ≤ grownCap w m 0 e * i.size := Nat.mul_le_mul_right _ hge
        refine own_mk (own_close (cur := ([] : List Value).toArray ++ ys.toArray ++ Builtin.zeroCells z.cells (grownCap w m 0 e - m)) (Blk.new w.drew e _) hge hle ?_ ?_ ?_)
        · simp only [Array.size_append, List.size_toArray, Builtin.zeroCells, Array.size_map, Array.size_range, hzs, List.length_nil]
          omega
        · simp only [Array.toList_append, List.toList_toArray, List.nil_append]
          rw [List.take_left']
          omega
        · omega
      · rw [own_F] at hj
        exact Nat.le_of_eq (Option.some.inj hj)
  · refine sl_app_full hx (hr0.mono hs0) (by omega) hy hr (by omega) ht hi hzs hd h63 hby (fun g c' => ?_)
    refine sl_know (fun w hw => (own_len (e := e) (size := size) (A := some ⟨g, 0, none⟩) hw .here).2) ?_
    rintro ⟨l1, -⟩
    exact h _ c' _ l1 (Vw.of_own .here)
end
end Go.Proofs.Ytidphdlhghgglaa
/- The library's sort, by the shelf's contract, over facts. No program is in sight. -/
namespace Go.Proofs.Ytidphdlhghgglaa
open Go.RowKit Go.Sort Go.Shelf
section
variable {α : Type} [Inhabited α] {enc : α → Value} {w : World} {g n c size : Nat} {e : TypeId} {d : Array α} {P : Program} {f : FuncId} {args : Array Value} {K : List Fa}
theorem holds_blk {cur : Array Value} (hb : Blk w g e cur) (ht : cur.toList.take d.size = d.toList.map enc) : Holds enc w g 0 d := by
  intro j hj
  unfold Blk at hb
  refine ⟨?_, by simp [World.frozen?, hb]⟩
  have h1 : (cur.toList.take d.size)[j]? = (d.toList.map enc)[j]? := by rw [ht]
  rw [List.getElem?_take_of_lt hj] at h1
  simp only [World.cell?, hb, Nat.zero_add]
  simp only [Option.isSome_none, Bool.false_eq_true, if_false]
  rw [← Array.getElem?_toList, h1]
  simp [hj]
theorem blk_sorted {cur : Array Value} {m : Nat} {os : Array Obj} (d : Array α) (hb : Blk w g e cur) : Blk (sortWorld enc w g 0 m d os) g e (putCells enc 0 d cur) := by
  unfold Blk at hb
  have hg : g < w.heap.size := (Array.getElem?_eq_some_iff.1 hb).1
  unfold Blk sortWorld
  rw [heap_grow_old _ _ (by simpa [putRow, mapBlock, Sort.ahead] using hg)]
  simp [putRow, mapBlock, Sort.ahead, Array.getElem?_modify, hb, onCells]
theorem fr_sorted {m : Nat} {os : Array Obj} (d : Array α) : Fr (fun j => j = g) w (sortWorld enc w g 0 m d os) := by
  unfold sortWorld
  refine ⟨rfl, rfl, rfl, by simp [putRow, mapBlock, Sort.ahead], fun k hk hne => ?_⟩
  rw [heap_grow_old _ _ (by simpa [putRow, mapBlock, Sort.ahead] using hk)]
  have : g ≠ k := fun e => hne e.symm
  simp [putRow, mapBlock, Sort.ahead, Array.getElem?_modify, this]
theorem take_put (cur : Array Value) (d : Array α) (h : d.size ≤ cur.size) : (putCells enc 0 d cur).toList.take d.size = d.toList.map enc := by
  apply List.ext_getElem?
  intro j
  by_cases hj : j < d.size
  · rw [List.getElem?_take_of_lt hj, Array.getElem?_toList]
    simp [putCells, hj, show j < cur.size by omega]
  · rw [List.getElem?_take_eq_none (by omega), List.getElem?_eq_none (by simp; omega)]
theorem sep_sorted (hw : Sep w (own e size (some ⟨g, 0, none⟩) n c (d.toList.map enc) :: K)) : Holds enc w g 0 d ∧ g < w.heap.size ∧ d.size = n * size ∧ n ≤ c ∧ ∀ (d' : Array α) m os, d'.size = d.size → Sep (sortWorld enc w g 0 m d' os) (own e size (some ⟨g, 0, none⟩) n c (d'.toList.map enc) :: K) := by
  have hO : w.ownsRow 0 e size (.slice (some ⟨g, 0, none⟩) n c) n (d.toList.map enc) := by
    have := hw.hd
    unfold own at this
    exact this
  obtain ⟨cur, hB, hkc, hcm, hcs, htk, hxl⟩ := own_open hO
  have hn : d.size = n * size := by simpa using hxl
  have hle : n * size ≤ c * size := Nat.mul_le_mul_right _ hkc
  refine ⟨holds_blk hB (by rw [hn]; exact htk), hB.lt, hn, hkc, fun d' m os hs => ?_⟩
  refine hw.step (fr_sorted d') (fun j _ e => by rw [own_F]; exact congrArg some e.symm) (own_mk (own_close (blk_sorted d' hB) hkc hcm (by simp [putCells, hcs]) ?_ (by simp [hs, hn]))) (fun j hj => .inl (by rw [own_F] at hj ⊢; exact hj))
  rw [← hn, ← hs]
  exact take_put _ _ (by omega)
theorem fn_sort1 {Φ : Array α → Prop} (h : ∀ w, Holds enc w g 0 d → g < w.heap.size → Calls P f args w fun x w' => x = .returned (.tuple #[]) ∧ ∃ d' m os, Φ d' ∧ d'.size = d.size ∧ w' = sortWorld enc w g 0 m d' os) :
    Fn P f args (own e 1 (some ⟨g, 0, none⟩) n c (d.toList.map enc) :: K) (Ret (fun x : Array α => Φ x ∧ x.size = d.size) (fun _ => .tuple #[]) (fun x => own e 1 (some ⟨g, 0, none⟩) n c (x.toList.map enc) :: K)) := by
  unfold Fn
  intro w hw
  obtain ⟨hH, hg, _, _, hS⟩ := sep_sorted hw
  refine (h w hH hg).mono ?_
  rintro x w' ⟨rfl, d', m, os, hφ, hs, rfl⟩
  exact ⟨d', ⟨hφ, hs⟩, rfl, hS d' m os hs⟩
theorem flat_list (enc : α → List Value) (k : Nat) (hk : ∀ x, (enc x).length = k) (d : Array α) : (flatK enc k d).toList.map id = d.toList.flatMap enc := by
  rw [List.map_id]
  apply List.ext_getElem?
  intro t
  by_cases ht : t < d.size * k
  · have k0 : 0 < k := by
      rcases Nat.eq_zero_or_pos k with h | h
      · subst h; simp at ht
      · exact h
    have h1 := get_flatK enc k d t ht
    have hs : (flatK enc k d).size = d.size * k := by simp
    have h2 : t / k < d.size := by
      rw [Nat.div_lt_iff_lt_mul k0]
      exact ht
    have h3 : t % k < (enc d[t / k]!).length := by rw [hk]; exact Nat.mod_lt _ k0
    have h4 : ∀ (l : List α) (q r : Nat), r < k → ∀ x, l[q]? = some x → (l.flatMap enc)[q * k + r]? = (enc x)[r]? := by
      intro l
      induction l with
      | nil => intro q r _ x hx; simp at hx
      | cons a l ih =>
        intro q r hr x hx
        rw [List.flatMap_cons]
        cases q with
        | zero =>
          simp only [List.getElem?_cons_zero, Option.some.injEq] at hx
          subst hx
          rw [Nat.zero_mul, Nat.zero_add, List.getElem?_append_left (by rw [hk]; exact hr)]
        | succ q =>
          simp only [List.getElem?_cons_succ] at hx
          rw [List.getElem?_append_right (by rw [hk, Nat.succ_mul]; omega), hk, show (q + 1) * k + r - k = q * k + r by rw [Nat.succ_mul]; omega]
          exact ih q r hr x hx
    have h5 := h4 d.toList (t / k) (t % k) (Nat.mod_lt _ k0) d[t / k]! (by simp [h2])
    rw [Nat.div_add_mod' t k] at h5
    rw [h5, Array.getElem?_toList, Array.getElem?_eq_getElem (by rw [hs]; exact ht), List.getElem?_eq_getElem h3]
    rw [getElem!_pos _ t (by rw [hs]; exact ht)] at h1
    rw [h1, getElem!_pos (enc d[t / k]!) (t % k) h3]
  · have h6 : ∀ (l : List α), (l.flatMap enc).length = l.length * k := by
      intro l
      induction l with
      | nil => simp
      | cons a l ih => rw [List.flatMap_cons, List.length_append, ih, hk, List.length_cons, Nat.succ_mul]; omega
    rw [List.getElem?_eq_none (by simp; omega), List.getElem?_eq_none (by rw [h6]; simp; omega)]
theorem fn_sortK {enc : α → List Value} {k : Nat} (hk : ∀ x, (enc x).length = k) {Φ : Array α → Prop} (h : ∀ w, HoldsK enc k w g 0 d → g < w.heap.size → Calls P f args w fun x w' => x = .returned (.tuple #[]) ∧ ∃ d' m os, Φ d' ∧ d'.size = d.size ∧ w' = sortWorldK enc k w g 0 m d' os) :
    Fn P f args (own e k (some ⟨g, 0, none⟩) n c (d.toList.flatMap enc) :: K) (Ret (fun x : Array α => Φ x ∧ x.size = d.size) (fun _ => .tuple #[]) (fun x => own e k (some ⟨g, 0, none⟩) n c (x.toList.flatMap enc) :: K)) := by
  unfold Fn
  intro w hw
  rw [← flat_list enc k hk d] at hw
  obtain ⟨hH, hg, _, _, hS⟩ := sep_sorted hw
  refine (h w hH hg).mono ?_
  rintro x w' ⟨rfl, d', m, os, hφ, hs, rfl⟩
  refine ⟨d', ⟨hφ, hs⟩, rfl, ?_⟩
  have h1 := hS (flatK enc k d') m os (by simp [hs])
  rw [flat_list enc k hk d'] at h1
  exact h1
end
end Go.Proofs.Ytidphdlhghgglaa
/- Small functions on floats: IsNaN, Signbit, Same, Compare, order: what they answer; no memory turns. -/
namespace Go.Proofs.Ytidphdlhghgglaa
open Go.RowKit
def fEq (x y : Nat) : Bool := FloatKind.f64.format.order x y == some .eq
def fLt (x y : Nat) : Bool := FloatKind.f64.format.order x y == some .lt
def fnan (x : Nat) : Bool := !fEq x x
def fneg (x : Nat) : Bool := decide (9223372036854775808 ≤ x)
def sameF (x y : Nat) : Bool := fEq x y || (fnan x && fnan y)
def compF (x y : Nat) : Int := if sameF x y then 0 else if fnan x || fLt x y then -1 else 1
def ordF (x y : Nat) : Int := if compF x y ≠ 0 then compF x y else if fneg x = fneg y then 0 else if fneg x then -1 else 1
theorem isNaN_c (x : Nat) (W : World) : Calls Try.prog 25 #[.float .f64 x] W fun e w' => e = .returned (.bool (fnan x)) ∧ w' = W := by
  go_enter Try.func25, Try.ntmps25
  go_wp2
  go_ret
  exact ⟨rfl, rfl⟩
theorem bits_row (args : Array Value) (w : World) : (callFunc 39 args).run Try.prog w = (Extern.MathFloatBits.float64bits args >>= fun v => pure (Next.value v)).run Try.prog w := by kernel_rfl
theorem run_bits (x : Nat) (w : World) : (callFunc 39 #[.float .f64 x]).run Try.prog w = .ok (.value (.int .u64 x)) w := by
  rw [bits_row]
  rfl
theorem frombits_row (args : Array Value) (w : World) : (callFunc 29 args).run Try.prog w = (Extern.MathFloatBits.float64frombits args >>= fun v => pure (Next.value v)).run Try.prog w := by kernel_rfl
theorem run_frombits (x : Int) (w : World) : (callFunc 29 #[.int .u64 x]).run Try.prog w = .ok (.value (.float .f64 x.toNat)) w := by
  rw [frombits_row]
  rfl
theorem signbit_c (x : Nat) (hx : x < 18446744073709551616) (W : World) : Calls Try.prog 24 #[.float .f64 x] W fun e w' => e = .returned (.bool (fneg x)) ∧ w' = W := by
  have h39 := fun w => run_bits x w
  go_enter Try.func24, Try.ntmps24
  go_wp2
  go_ret
  refine ⟨?_, rfl⟩
  show Ending.returned (.bool (decide (wrap64 (x : Int) < 0))) = _
  congr 2
  unfold fneg
  rw [decide_eq_decide]
  unfold wrap64
  omega
theorem same_c (x y : Nat) (W : World) : Calls Try.prog 30 #[.float .f64 x, .float .f64 y] W fun e w' => e = .returned (.bool (sameF x y)) ∧ w' = W := by
  go_enter Try.func30, Try.ntmps30
  go_wp2_with (go_at_call 25; refine (isNaN_c _ _).mono ?_; rintro e w' ⟨rfl, rfl⟩)
  all_goals go_ret
  all_goals refine ⟨?_, rfl⟩
  all_goals simp_all [sameF, fEq]
theorem comp_c (x y : Nat) (W : World) : Calls Try.prog 42 #[.float .f64 x, .float .f64 y] W fun e w' => e = .returned (.int .i64 (compF x y)) ∧ w' = W := by
  go_enter Try.func42, Try.ntmps42
  go_wp2_with (first | (go_at_call 25; refine (isNaN_c _ _).mono ?_; rintro e w' ⟨rfl, rfl⟩) | (go_at_call 30; refine (same_c _ _ _).mono ?_; rintro e w' ⟨rfl, rfl⟩))
  all_goals go_ret
  all_goals refine ⟨?_, rfl⟩
  all_goals simp_all [compF, fLt]
theorem ord_c (x y : Nat) (hx : x < 18446744073709551616) (hy : y < 18446744073709551616) (W : World) : Calls Try.prog 27 #[.float .f64 x, .float .f64 y] W fun e w' => e = .returned (.int .i64 (ordF x y)) ∧ w' = W := by
  go_enter Try.func27, Try.ntmps27
  go_wp2_with (first | (go_at_call 24; refine (signbit_c _ (by assumption) _).mono ?_; rintro e w' ⟨rfl, rfl⟩) | (go_at_call 42; refine (comp_c _ _ _).mono ?_; rintro e w' ⟨rfl, rfl⟩))
  all_goals go_ret
  all_goals refine ⟨?_, rfl⟩
  all_goals simp_all [ordF]
end Go.Proofs.Ytidphdlhghgglaa
/- Floats in the order of their values. No program is in sight. -/
namespace Go.Proofs.Ytidphdlhghgglaa
open Go.RowKit
def bigE : Nat := 2200
theorem bigE_eq : bigE = 2200 := rfl
def big : Nat := 2 ^ bigE
theorem big_eq : big = 2 ^ bigE := rfl
attribute [irreducible] bigE big
theorem icmp (a b : Int) : compare a b = if a < b then Ordering.lt else if a = b then Ordering.eq else Ordering.gt := rfl
def fvD : Ieee.Datum → Int
  | .number s m i => Ieee.signed s m (i + 1074).toNat
  | .infinity s => if s then -(big : Int) else big
  | .nan _ _ => 0
def fv (x : Nat) : Int := fvD (Ieee.double.read x)
theorem signed_add (s : Bool) (m a k : Nat) : Ieee.signed s m (a + k) = Ieee.signed s m a * 2 ^ k := by
  have h : m <<< (a + k) = m <<< a * 2 ^ k := by rw [Nat.shiftLeft_eq, Nat.shiftLeft_eq, Nat.pow_add, Nat.mul_assoc]
  unfold Ieee.signed
  rw [h]
  split
  · rw [Int.natCast_mul, Int.neg_mul, Int.natCast_pow]
    rfl
  · rw [Int.natCast_mul, Int.natCast_pow]
    rfl
/-- What a word may stand for. -/
def OkD : Ieee.Datum → Prop
  | .number _ m i => -1074 ≤ i ∧ m <<< (i + 1074).toNat < big
  | _ => True
theorem read_ok (x : Nat) : OkD (Ieee.double.read x) := by
  have hb : Ieee.double.binade = 4503599627370496 := by decide
  have hi : Ieee.double.infRung = 2047 * 4503599627370496 := by decide
  have hp : Ieee.double.leastPlace = -1074 := by decide
  unfold Ieee.Format.read
  simp only [hb, hi, hp]
  generalize x % Ieee.double.signWeight = rung
  generalize (x / Ieee.double.signWeight % 2 == 1) = neg
  split
  · rename_i h
    refine ⟨Int.le_refl _, ?_⟩
    rw [show ((-1074 : Int) + 1074).toNat = 0 by decide, Nat.shiftLeft_zero, big_eq]
    exact Nat.lt_of_lt_of_le (Nat.lt_trans h (by decide : 4503599627370496 < 2 ^ 53)) (Nat.pow_le_pow_right (by decide) (by rw [bigE_eq]; decide))
  · split
    · rename_i h1 h2
      have h3 : rung / 4503599627370496 < 2047 := by omega
      refine ⟨by omega, ?_⟩
      rw [show ((-1074 : Int) + ((rung / 4503599627370496 - 1 : Nat) : Int) + 1074).toNat = rung / 4503599627370496 - 1 by omega, Nat.shiftLeft_eq, big_eq]
      have h4 : 4503599627370496 + rung % 4503599627370496 < 2 ^ 53 := by
        have := Nat.mod_lt rung (by decide : 0 < 4503599627370496)
        omega
      have h5 : 2 ^ (rung / 4503599627370496 - 1) ≤ 2 ^ (bigE - 154) := Nat.pow_le_pow_right (by decide) (by rw [bigE_eq]; omega)
      refine Nat.lt_of_lt_of_le (Nat.mul_lt_mul_of_lt_of_le h4 h5 (Nat.two_pow_pos _)) ?_
      rw [← Nat.pow_add]
      exact Nat.pow_le_pow_right (by decide) (by rw [bigE_eq]; decide)
    · split <;> exact True.intro
theorem fvD_lt {s : Bool} {m : Nat} {i : Int} (h : OkD (.number s m i)) : -(big : Int) < fvD (.number s m i) ∧ fvD (.number s m i) < big := by
  obtain ⟨_, h2⟩ := h
  show -(big : Int) < Ieee.signed s m (i + 1074).toNat ∧ Ieee.signed s m (i + 1074).toNat < big
  unfold Ieee.signed
  generalize m <<< (i + 1074).toNat = q at h2 ⊢
  generalize big = B at h2 ⊢
  cases s <;> simp only [Bool.false_eq_true, if_false, if_true] <;> omega
theorem order_D {a b : Ieee.Datum} (ha : OkD a) (hb : OkD b) (na : a.isNaN = false) (nb : b.isNaN = false) : a.order b = some (compare (fvD a) (fvD b)) := by
  cases a with
  | nan s t => cases na
  | infinity s =>
    cases b with
    | nan s t => cases nb
    | infinity t =>
      have hbig : 0 < big := by rw [big_eq]; exact Nat.two_pow_pos _
      have e : ∀ u : Bool, fvD (.infinity u) = if u then -(big : Int) else big := fun _ => rfl
      rw [e, e, icmp]
      generalize big = B at hbig ⊢
      cases s <;> cases t <;> simp only [Bool.false_eq_true, if_false, if_true]
      · rw [if_neg (Int.lt_irrefl _)]
        rfl
      · rw [if_neg (by omega), if_neg (by omega)]
        rfl
      · rw [if_pos (by omega)]
        rfl
      · rw [if_neg (Int.lt_irrefl _)]
        rfl
    | number t n j =>
      have h1 := fvD_lt hb
      generalize hv : fvD (.number t n j) = v at h1 ⊢
      unfold Ieee.Datum.order
      rw [icmp]
      unfold fvD
      cases s
      · rw [if_neg (by simp only [Bool.false_eq_true, if_false]; omega), if_neg (by simp only [Bool.false_eq_true, if_false]; omega)]
        rfl
      · rw [if_pos (by simp only [if_true]; omega)]
        rfl
  | number s m i =>
    cases b with
    | nan s t => cases nb
    | infinity t =>
      have h1 := fvD_lt ha
      generalize hv : fvD (.number s m i) = v at h1 ⊢
      unfold Ieee.Datum.order
      rw [icmp]
      unfold fvD
      cases t
      · rw [if_pos (by simp only [Bool.false_eq_true, if_false]; omega)]
        rfl
      · rw [if_neg (by simp only [if_true]; omega), if_neg (by simp only [if_true]; omega)]
        rfl
    | number t n j =>
      obtain ⟨h1, _⟩ := ha
      obtain ⟨h2, _⟩ := hb
      unfold Ieee.Datum.order fvD
      dsimp only
      obtain ⟨k, hk⟩ : ∃ k : Nat, min i j = (k : Int) - 1074 := ⟨(min i j + 1074).toNat, by omega⟩
      rw [hk, show (i + 1074).toNat = (i - ((k : Int) - 1074)).toNat + k by omega, show (j + 1074).toNat = (j - ((k : Int) - 1074)).toNat + k by omega, signed_add, signed_add]
      generalize Ieee.signed s m (i - ((k : Int) - 1074)).toNat = A
      generalize Ieee.signed t n (j - ((k : Int) - 1074)).toNat = B
      have hpos : (0 : Int) < 2 ^ k := Int.pow_pos (by decide)
      congr 1
      rw [icmp, icmp]
      by_cases hlt : A < B
      · rw [if_pos hlt, if_pos (Int.mul_lt_mul_of_pos_right hlt hpos)]
      · by_cases he : A = B
        · subst he
          rw [if_neg hlt, if_pos rfl, if_neg (Int.lt_irrefl _), if_pos rfl]
        · have hgt : B < A := by omega
          have := Int.mul_lt_mul_of_pos_right hgt hpos
          rw [if_neg hlt, if_neg he, if_neg (by omega), if_neg (by omega)]
theorem order_nan {a b : Ieee.Datum} (h : a.isNaN = true ∨ b.isNaN = true) : a.order b = none := by
  cases a <;> cases b <;> simp_all [Ieee.Datum.isNaN, Ieee.Datum.order]
theorem f64_format : FloatKind.f64.format = Ieee.double := rfl
theorem ord_none {x y : Nat} (h : (Ieee.double.read x).isNaN = true ∨ (Ieee.double.read y).isNaN = true) : FloatKind.f64.format.order x y = none := order_nan h
theorem ord_some {x y : Nat} (hx : (Ieee.double.read x).isNaN = false) (hy : (Ieee.double.read y).isNaN = false) : FloatKind.f64.format.order x y = some (compare (fv x) (fv y)) := order_D (read_ok x) (read_ok y) hx hy
theorem fnan_eq (x : Nat) : fnan x = (Ieee.double.read x).isNaN := by
  unfold fnan fEq
  cases h : (Ieee.double.read x).isNaN with
  | true =>
    rw [ord_none (.inl h)]
    rfl
  | false =>
    rw [ord_some h h, icmp, if_neg (Int.lt_irrefl _), if_pos rfl]
    rfl
theorem fEq_of {x y : Nat} (hx : fnan x = false) (hy : fnan y = false) : fEq x y = decide (fv x = fv y) := by
  rw [fnan_eq] at hx hy
  unfold fEq
  rw [ord_some hx hy, icmp]
  by_cases h : fv x < fv y
  · rw [if_pos h, decide_eq_false (by omega)]
    rfl
  · by_cases h2 : fv x = fv y
    · rw [if_neg h, if_pos h2, decide_eq_true h2]
      rfl
    · rw [if_neg h, if_neg h2, decide_eq_false h2]
      rfl
theorem fLt_of {x y : Nat} (hx : fnan x = false) (hy : fnan y = false) : fLt x y = decide (fv x < fv y) := by
  rw [fnan_eq] at hx hy
  unfold fLt
  rw [ord_some hx hy, icmp]
  by_cases h : fv x < fv y
  · rw [if_pos h, decide_eq_true h]
    rfl
  · by_cases h2 : fv x = fv y
    · rw [if_neg h, if_pos h2, decide_eq_false h]
      rfl
    · rw [if_neg h, if_neg h2, decide_eq_false h]
      rfl
theorem fEq_nan {x y : Nat} (h : fnan x = true ∨ fnan y = true) : fEq x y = false := by
  rw [fnan_eq, fnan_eq] at h
  unfold fEq
  rw [ord_none h]
  rfl
theorem fLt_nan {x y : Nat} (h : fnan x = true ∨ fnan y = true) : fLt x y = false := by
  rw [fnan_eq, fnan_eq] at h
  unfold fLt
  rw [ord_none h]
  rfl
theorem fGt_eq (x y : Nat) : (FloatKind.f64.format.order x y == some .gt) = fLt y x := by
  by_cases h : fnan x = true ∨ fnan y = true
  · rw [fLt_nan h.symm]
    rw [fnan_eq, fnan_eq] at h
    rw [ord_none h]
    rfl
  · have hx : fnan x = false := by cases hh : fnan x <;> simp_all
    have hy : fnan y = false := by cases hh : fnan y <;> simp_all
    rw [fLt_of hy hx]
    rw [fnan_eq] at hx hy
    rw [ord_some hx hy, icmp]
    by_cases h : fv x < fv y
    · rw [if_pos h, decide_eq_false (by omega)]
      rfl
    · by_cases h2 : fv x = fv y
      · rw [if_neg h, if_pos h2, decide_eq_false (by omega)]
        rfl
      · rw [if_neg h, if_neg h2, decide_eq_true (by omega)]
        rfl
/-- By its value, and a nought with a sign first. -/
def key (x : Nat) : Int := 2 * fv x + (if fneg x then 0 else 1)
theorem ordF_of {x y : Nat} (hx : fnan x = false) (hy : fnan y = false) : ordF x y = if key x < key y then -1 else if key x = key y then 0 else 1 := by
  unfold ordF compF sameF key
  rw [fEq_of hx hy, fLt_of hx hy, hx, hy]
  simp only [Bool.and_self, Bool.or_false, Bool.false_or, decide_eq_true_eq]
  cases fneg x <;> cases fneg y <;> simp only [Bool.false_eq_true, if_false, if_true, ne_eq] <;> (repeat' split) <;> first | rfl | omega | (exfalso; omega) | simp_all
end Go.Proofs.Ytidphdlhghgglaa
/- The shelf's contract of slices.SortFunc at floats, laid at this program (printed by the kit's lay-plain), and over facts: numbers in their order. -/
namespace Go.Proofs.Ytidphdlhghgglaa
open Go.Shelf Go.Sort Go.RowKit
def sortF_ren : Go.Shelf.Ren := ⟨fun | 6 => 26 | 15 => 41 | 14 => 40 | 28 => 55 | 29 => 56 | 20 => 47 | 21 => 48 | 22 => 49 | 23 => 50 | 24 => 51 | 25 => 52 | 26 => 53 | 27 => 54 | 46 => 59 | 47 => 60 | 48 => 61 | 49 => 62 | 50 => 63 | 57 => 66 | n => n, fun | 22 => 22 | 24 => 24 | 25 => 65 | 3 => 3 | 39 => 53 | 0 => 0 | 53 => 88 | 55 => 50 | 4 => 4 | 46 => 82 | 45 => 81 | 50 => 69 | 5 => 5 | 9 => 9 | 66 => 92 | 70 => 96 | 76 => 99 | 77 => 100 | n => n, fun | n => n⟩
theorem sortF : Go.Proofs.SlLaysF.n6 Try.prog sortF_ren := {
  mixed := by kernel_rfl
  f6 := ⟨Try.f26.name, by decide, Try.func26.trans (congrArg some (by kernel_rfl))⟩
  f14 := ⟨Try.f40.name, by decide, Try.func40.trans (congrArg some (by kernel_rfl))⟩
  f15 := Try.func41.trans (congrArg some (by kernel_rfl))
  f20 := ⟨Try.f47.name, by decide, Try.func47.trans (congrArg some (by kernel_rfl))⟩
  f21 := ⟨Try.f48.name, by decide, Try.func48.trans (congrArg some (by kernel_rfl))⟩
  f22 := ⟨Try.f49.name, by decide, Try.func49.trans (congrArg some (by kernel_rfl))⟩
  f23 := ⟨Try.f50.name, by decide, Try.func50.trans (congrArg some (by kernel_rfl))⟩
  f24 := ⟨Try.f51.name, by decide, Try.func51.trans (congrArg some (by kernel_rfl))⟩
  f25 := ⟨Try.f52.name, by decide, Try.func52.trans (congrArg some (by kernel_rfl))⟩
  f26 := ⟨Try.f53.name, by decide, Try.func53.trans (congrArg some (by kernel_rfl))⟩
  f27 := ⟨Try.f54.name, by decide, Try.func54.trans (congrArg some (by kernel_rfl))⟩
  f28 := Try.func55.trans (congrArg some (by kernel_rfl))
  f29 := Try.func56.trans (congrArg some (by kernel_rfl))
  f46 := ⟨Try.f59.name, by decide, Try.func59.trans (congrArg some (by kernel_rfl))⟩
  f47 := Try.func60.trans (congrArg some (by kernel_rfl))
  f48 := Try.func61.trans (congrArg some (by kernel_rfl))
  f49 := ⟨Try.f62.name, by decide, Try.func62.trans (congrArg some (by kernel_rfl))⟩
  f50 := ⟨Try.f63.name, by decide, Try.func63.trans (congrArg some (by kernel_rfl))⟩
  f57 := ⟨Try.f66.name, by decide, Try.func66.trans (congrArg some (by kernel_rfl))⟩
  t0 := Try.underlying0
  a0 := Try.isAgg0
  z0 := Try.sizeOf0
  v0 := Try.zeroValue0
  t3 := Try.underlying3
  a3 := Try.isAgg3
  z3 := Try.sizeOf3
  v3 := Try.zeroValue3
  t4 := Try.underlying4
  a4 := Try.isAgg4
  z4 := Try.sizeOf4
  v4 := Try.zeroValue4
  t5 := Try.underlying5
  a5 := Try.isAgg5
  z5 := Try.sizeOf5
  v5 := Try.zeroValue5
  t9 := Try.underlying9
  a9 := Try.isAgg9
  z9 := Try.sizeOf9
  v9 := Try.zeroValue9
  t22 := Try.underlying22
  a22 := Try.isAgg22
  z22 := Try.sizeOf22
  v22 := Try.zeroValue22
  a24 := Try.isAgg24
  z24 := Try.sizeOf24
  t25 := Try.underlying65
  a25 := Try.isAgg65
  z25 := Try.sizeOf65
  v25 := Try.zeroValue65
  t39 := Try.underlying53
  a39 := Try.isAgg53
  z39 := Try.sizeOf53
  v39 := Try.zeroValue53
  t45 := Try.underlying81
  a45 := Try.isAgg81
  z45 := Try.sizeOf81
  v45 := Try.zeroValue81
  t46 := Try.underlying82
  a46 := Try.isAgg82
  z46 := Try.sizeOf82
  v46 := Try.zeroValue82
  t50 := Try.underlying69
  a50 := Try.isAgg69
  z50 := Try.sizeOf69
  v50 := Try.zeroValue69
  t53 := Try.underlying88
  a53 := Try.isAgg88
  z53 := Try.sizeOf88
  v53 := Try.zeroValue88
  t55 := Try.underlying50
  a55 := Try.isAgg50
  z55 := Try.sizeOf50
  v55 := Try.zeroValue50
  t66 := Try.underlying92
  a66 := Try.isAgg92
  z66 := Try.sizeOf92
  v66 := Try.zeroValue92
  t70 := Try.underlying96
  a70 := Try.isAgg96
  z70 := Try.sizeOf96
  v70 := Try.zeroValue96
  t76 := Try.underlying99
  a76 := Try.isAgg99
  z76 := Try.sizeOf99
  v76 := Try.zeroValue99
  t77 := Try.underlying100
  a77 := Try.isAgg100
  z77 := Try.sizeOf100
  v77 := Try.zeroValue100 }
/-- A float that is a number. -/
structure Fp where
  x : Nat
  nn : fnan x = false
  lt : x < 18446744073709551616
instance : Inhabited Fp := ⟨⟨0, by rw [fnan_eq]; rfl, by decide⟩⟩
def Fp.v (f : Fp) : Value := .float .f64 f.x
def cmpF (a b : Fp) : Int := ordF a.x b.x
theorem lt_cmp (a b : Fp) : ltOf cmpF a b = decide (key a.x < key b.x) := by
  unfold ltOf cmpF
  rw [ordF_of a.nn b.nn]
  by_cases h : key a.x < key b.x
  · rw [if_pos h, decide_eq_true h]
    rfl
  · by_cases h2 : key a.x = key b.x
    · rw [if_neg h, if_pos h2, decide_eq_false h]
      rfl
    · rw [if_neg h, if_neg h2, decide_eq_false h]
      rfl
theorem swo_cmp : SWO (ltOf cmpF) where
  irrefl x := by rw [lt_cmp]; simp
  trans x y z h1 h2 := by rw [lt_cmp] at *; simp at *; omega
  ntrans x y z h1 h2 := by rw [lt_cmp] at *; simp at *; omega
theorem one_fp (f : Fp) : f.v.oneCell' = true := rfl
theorem enters_ord : ∀ args w, (callFunc 27 args).run Try.prog w = .ok (.enter 27 args) w := fun args w => by kernel_rfl
theorem reads_ord (blk off size : Nat) (w : World) : CmpReads Try.prog 27 #[] Fp.v cmpF blk off size w := fun _ _ _ _ x y => (ord_c x.x y.x x.lt y.lt _).mono fun _ _ h => ⟨h.1, 0, h.2⟩
theorem sortf_ok {K : List Fa} {A : Option Addr} {c : Nat} {ds : List Fp} (hn : ds.length ≤ 1000000) :
    Fn Try.prog 26 #[.slice A ds.length c, .func (.func 27) #[] #[]] (own 24 1 A ds.length c (ds.map Fp.v) :: K) (Ret (fun d : List Fp => d.Perm ds ∧ d.Pairwise (fun a b => key a.x ≤ key b.x)) (fun _ => .tuple #[]) (fun d => own 24 1 A ds.length c (d.map Fp.v) :: K)) := by
  rcases Nat.eq_zero_or_pos ds.length with h0 | h0
  · obtain rfl : ds = [] := List.eq_nil_of_length_eq_zero h0
    unfold Fn
    intro w hw
    have hnone := AnyF.slices_SortFunc_none (L := { sortF with }) A c (.func (.func 27) #[] #[]) w
    refine hnone.mono ?_
    rintro x w' ⟨rfl, rfl⟩
    exact ⟨[], ⟨.refl _, .nil⟩, rfl, hw⟩
  · unfold Fn
    intro w hw
    obtain ⟨g, cap, hv, _, _⟩ := World.ownsRow.form (show w.ownsRow 0 24 1 (.slice A ds.length c) ds.length (ds.map Fp.v) from by have := hw.hd; unfold own at this; exact this) h0
    obtain rfl : A = some ⟨g, 0, none⟩ := by injection hv
    have h1 : (ds.map Fp.v) = ds.toArray.toList.map Fp.v := by simp
    rw [h1] at hw
    obtain ⟨hH, hg, _, _, hS⟩ := sep_sorted hw
    have hcon := Any.slices_SortFunc sortF Fp.v one_fp cmpF swo_cmp 27 #[] g 0 c ds.toArray w enters_ord (reads_ord g 0 _ w).lays hH hg (by simp; omega)
    rw [List.size_toArray] at hcon
    refine hcon.mono ?_
    rintro x w' ⟨rfl, d', m, os, hp, hs, rfl⟩
    obtain ⟨hsz, _, hperm⟩ := hp
    have e1 : d'.extract 0 ds.length = d' := by rw [← List.size_toArray, ← hsz]; exact Array.extract_size
    rw [e1, ← List.size_toArray, Array.extract_size] at hperm
    refine ⟨d'.toList, ⟨hperm, ?_⟩, rfl, hS d' m os hsz⟩
    rw [List.pairwise_iff_getElem]
    intro i j hi hj hij
    rw [Array.length_toList] at hi hj
    have h2 := hs i j (Nat.zero_le _) hij (by rw [← List.size_toArray, ← hsz]; exact hj)
    rw [lt_cmp, getElem!_pos d' i hi, getElem!_pos d' j hj] at h2
    simp only [decide_eq_false_iff_not] at h2
    simp only [Array.getElem_toList]
    omega
end Go.Proofs.Ytidphdlhghgglaa
/- Summarize: over facts. -/
namespace Go.Proofs.Ytidphdlhghgglaa
open Go.RowKit
attribute [local irreducible] Go.Calls Go.Exit.then Go.Exit.inBlock Go.bodyPost Go.Code.wp Go.wpList
theorem fn_same {P : Program} {f : FuncId} {args : Array Value} {v : Value} {K : List Fa} (h : ∀ W, Calls P f args W fun e w' => e = .returned v ∧ w' = W) : Fn P f args K (Ret (fun _ : Unit => True) (fun _ => v) (fun _ => K)) := by
  unfold Fn
  intro w hw
  refine (h w).mono ?_
  rintro e w' ⟨rfl, rfl⟩
  exact ⟨(), trivial, rfl, hw⟩
def fl (x : Nat) : Value := .float .f64 x
theorem nan_c (W : World) : Calls Try.prog 13 #[] W fun e w' => e = .returned (.float .f64 9221120237041090561) ∧ w' = W := by
  have h := fun w => run_frombits 9221120237041090561 w
  go_enter Try.func13, Try.ntmps13
  go_wp2
  go_ret
  exact ⟨rfl, rfl⟩
def numsOf : List Nat → List Fp
  | [] => []
  | x :: r => if h : fnan x = false ∧ x < 18446744073709551616 then ⟨x, h.1, h.2⟩ :: numsOf r else numsOf r
theorem nums_cons (x : Nat) (r : List Nat) : numsOf (x :: r) = if h : fnan x = false ∧ x < 18446744073709551616 then ⟨x, h.1, h.2⟩ :: numsOf r else numsOf r := rfl
theorem nums_app : ∀ a b : List Nat, numsOf (a ++ b) = numsOf a ++ numsOf b
  | [], b => rfl
  | x :: r, b => by
    rw [List.cons_append, nums_cons, nums_cons, nums_app r b]
    split <;> rfl
theorem nums_len : ∀ l : List Nat, (numsOf l).length ≤ l.length
  | [] => Nat.le_refl _
  | x :: r => by
    have := nums_len r
    unfold numsOf
    split
    · simp only [List.length_cons]; omega
    · simp only [List.length_cons]; omega
/-- What is said of numbers in their order. -/
def summC (d : List Fp) : List Value := [.int .i64 d.length, fl ((d[0]?.map Fp.x).getD 9221120237041090561), fl ((d[d.length - 1]?.map Fp.x).getD 9221120237041090561), fl ((d[(d.length - 1) / 2]?.map Fp.x).getD 9221120237041090561)]
theorem summC_ne {d : List Fp} (h : d.length ≠ 0) : summC d = [.int .i64 d.length, .float .f64 d[0].x, .float .f64 d[d.length - 1].x, .float .f64 d[(d.length - 1) / 2].x] := by
  unfold summC
  rw [List.getElem?_eq_getElem (by omega), List.getElem?_eq_getElem (by omega), List.getElem?_eq_getElem (by omega)]
  rfl
theorem infoF64 : (Try.prog.info? 24).map (fun i => (i.zero, i.size, i.bytes)) = some (some (.float .f64 0), 1, 8) := by kernel_rfl
theorem fl_one {x : Nat} : ∀ u ∈ [Value.float .f64 x], u.oneCell' = true := by
  intro u hu
  rw [List.mem_singleton] at hu
  subst hu
  rfl
structure Sg where
  j : Nat
  A : Option Addr
  c : Nat
theorem summ_one {k : IntKind} {n : Int} {a b c : Nat} : ∀ u ∈ [Value.int k n, .float .f64 a, .float .f64 b, .float .f64 c], u.oneCell' = true := by
  intro u hu
  simp only [List.mem_cons, List.not_mem_nil, or_false] at hu
  rcases hu with rfl | rfl | rfl | rfl <;> rfl
theorem nth_Sm {φ : Prop} (h : φ := by (first | rfl | assumption)) : φ := h
theorem mid_Sm {φ : Prop} (h : φ := by (first | exact Mid.all | exact Mid.all | exact Mid.head)) : φ := h
theorem sz_Sm {φ : Prop} (h : φ := by (first | rfl | (rfl; first | done | fail))) : φ := h
theorem one_Sm {φ : Prop} (h : φ := by (first | assumption | exact first | exact summ_one | exact one_bytes _ | (simp only [List.mem_cons, List.not_mem_nil, or_false, forall_eq_or_imp, forall_eq]; decide) | exact one_bytes _)) : φ := h
theorem set_Sm {φ : Prop} (h : φ := by (first | (fail) | ((repeat (first | exact SetAt.here | apply SetAt.there)); first | done | fail))) : φ := h
theorem cl_Sm {φ : Prop} (h : φ := by first | rfl | exact .t | exact .f | exact .t (by omega) | exact .f (by omega) | exact .u | exact .i (by (first | exact .t (by omega) | exact .f (by omega) | exact .u | exact .i (by omega) | exact .v (by omega) | exact .b (by omega) | exact .w | rfl | omega)) | exact .v (by omega) | exact .b (by omega) | exact .q (by omega) | exact .w | exact .b (by exact at_) rfl (by exact nth_Sm) | exact .w (by exact at_) rfl rfl (by exact sz_Sm) | exact .s (by exact at_) (by exact mid_Sm) rfl rfl (by exact sz_Sm) | exact .z rfl rfl ⟨by kernel_rfl⟩ | exact .b rfl rfl ⟨by kernel_rfl⟩ | exact .a rfl rfl ⟨by kernel_rfl⟩ | exact .o rfl | exact .s | exact .n | exact .p rfl | exact .q rfl | exact .c rfl | exact .d rfl | exact .n rfl rfl (by omega) | exact .a rfl rfl (by omega) | exact .p rfl rfl (by omega) (by omega) | exact .y rfl rfl (by omega) (by omega) | exact .o (by exact at_) (by omega) rfl (by exact nth_Sm) | exact .m (by exact at_) (by omega) (by exact mid_Sm) rfl rfl (by exact sz_Sm) | exact .mlen (by exact at_) rfl | exact .t (by exact at_) rfl rfl (by first | exact True.intro | rfl) (by assumption) | exact .f (by exact at_) rfl rfl (by first | exact True.intro | rfl) (by assumption) rfl | exact .t1 (by exact at_) rfl rfl (by first | exact True.intro | rfl) (by assumption) | exact .f1 (by exact at_) rfl rfl (by first | exact True.intro | rfl) (by assumption) rfl | exact .r rfl rfl (by omega) (by omega) (by exact nth_Sm) rfl | exact .s rfl (by omega) (by assumption) | exact at_ | assumption | exact .r rfl rfl | exact .h rfl rfl rfl (by omega) | exact .l rfl rfl rfl (by omega) (by omega) | exact .g rfl rfl rfl rfl (by omega) (by omega) | exact .h rfl rfl (toN_ (by omega)) (by omega) | exact .l rfl rfl (toN_ (by omega)) (by omega) (by omega) | exact .g rfl rfl (toN_ (by omega)) (toN_ (by omega)) (by omega) (by omega) | exact .o (by decide) | exact .f (by decide) | exact .n (by omega) (by first | decide | (show _ ≤ ((64 : Nat) : Int); omega)) | (constructor; (repeat (first | exact .t (by omega) | exact .f (by omega) | exact .u | exact .i (by omega) | exact .v (by omega) | exact .b (by omega) | exact .w | rfl | omega)); first | done | fail) | omega | (show _ ≤ ((64 : Nat) : Int); omega)) : φ := h
theorem pv_Sm {φ : Prop} (h : φ := by constructor; (repeat exact cl_Sm); first | done | fail) : φ := h
theorem su_Sm {φ ψ : Prop} (k : ψ) (h : Hide ψ → φ := by (intro k; (first | refine sl_pu (PuI.sep (by exact pv_Sm)) rfl ?_ | refine sl_yes rfl rfl ?_ | refine sl_no rfl rfl rfl ?_ | refine sl_off rfl rfl rfl ?_ | (fail)); exact k.out)) : φ := h ⟨k⟩
theorem rq_Sm {φ ψ : Prop} (k : ψ) (h : Hide ψ → φ := by (intro k; (first | refine wq_pu (PuI.sep (by exact pv_Sm)) rfl ?_ | refine wq_yes rfl rfl ?_ | refine wq_no rfl rfl rfl ?_ | refine wq_off rfl rfl rfl ?_ | (fail)); exact k.out)) : φ := h ⟨k⟩
theorem sto_Sm {φ ψ : Prop} (k : ψ) (h : Hide ψ → φ := by (intro k; (first | refine sl_store rfl (by exact pick_) rfl rfl (by kernel_rfl) (by exact set_Sm) ?_ | refine sl_store_whole rfl (by exact pick_) rfl (by exact sz_Sm) (by exact sz_Sm) (by exact one_Sm) ?_); exact k.out)) : φ := h ⟨k⟩
theorem go_Sm {φ ψ : Prop} (k : ψ) (h : Hide ψ → φ := by (intro k; (repeat (first | refine su_Sm ?_ | refine so_ ?_ | refine sto_Sm ?_)); exact k.out)) : φ := h ⟨k⟩
set_option maxRecDepth 100000 in
set_option maxHeartbeats 2000000 in
theorem summ_ok {K : List Fa} {A : Option Addr} {c : Nat} {xs : List Nat} (hr : Vw K (fun w => Reads w 1 A xs.length (xs.map fl))) (hb : ∀ x ∈ xs, x < 18446744073709551616) (hn : xs.length ≤ 4096) :
    Fn Try.prog 10 #[.slice A xs.length c] K (Ret (fun d : List Fp => d.Perm (numsOf xs) ∧ d.Pairwise (fun a b => key a.x ≤ key b.x)) (fun d => .agg (summC d).toArray) (fun _ => K)) := by
  refine fn_enter Try.func10 rfl _ Try.ntmps10 (by simp) [(0, .slice A xs.length c)] (args_of (by simp)) ?_
  refine go_Sm ?_
  refine sl_alloc rfl rfl rfl ?_; intro g2
  refine go_Sm ?_
  refine sc_for (fun p : Sg => [(2, .pointer (some ⟨g2, 0, none⟩)), (3, .slice p.A (numsOf (xs.take p.j)).length p.c), (13, .slice A xs.length c), (14, .int .i64 xs.length), (15, .int .i64 p.j)]) (fun p => own 24 1 p.A (numsOf (xs.take p.j)).length p.c ((numsOf (xs.take p.j)).map Fp.v) :: blk g2 26 [.int .i64 0, .float .f64 0, .float .f64 0, .float .f64 0] :: K) (fun p => p.j ≤ xs.length) (fun p => xs.length - p.j) ⟨0, none, 0⟩ (by exact has_) (Sub.own_nil (by exact sub_)) (Nat.zero_le _) ?_
  rintro ⟨j, A1, c1⟩ hj
  dsimp only at hj ⊢
  by_cases hlt : j < xs.length
  · have hlen := nums_len (xs.take j)
    rw [List.length_take] at hlen
    have htk : xs.take (j + 1) = xs.take j ++ [xs[j]] := List.take_succ_eq_append_getElem hlt
    have hxb := hb _ (List.getElem_mem hlt)
    have hnx : nth (xs.map fl) (j * 1) = some (.float .f64 xs[j]) := by
      rw [nth_eq, Nat.mul_one, List.getElem?_map, List.getElem?_eq_getElem hlt]
      rfl
    refine sc_know (vw_form (L := own 24 1 A1 (numsOf (xs.take j)).length c1 ((numsOf (xs.take j)).map Fp.v) :: blk g2 26 [.int .i64 0, .float .f64 0, .float .f64 0, .float .f64 0] :: K) (hr.mono (by exact sub_)) (by omega)) ?_
    rintro ⟨ad, rfl⟩
    refine go_Sm ?_
    refine sl_pu (pu_ldr (hr.mono (by exact sub_)) (by omega) rfl rfl hnx) rfl ?_
    refine go_Sm ?_
    refine sl_call rfl rfl (by kernel_rfl) rfl Sub.refl (fn_same (isNaN_c _)) ?_
    rintro _ -
    cases hx : fnan xs[j] with
    | true =>
      have hsame : numsOf (xs.take (j + 1)) = numsOf (xs.take j) := by
        rw [htk, nums_app, nums_cons, dif_neg (by rw [hx]; simp)]
        exact List.append_nil _
      refine go_Sm ?_
      refine se_round ⟨j + 1, A1, c1⟩ (by rw [hsame]; exact has_) (by rw [hsame]; exact sub_) hlt (by show xs.length - (j + 1) < xs.length - j; omega)
    | false =>
      have hnew : numsOf (xs.take (j + 1)) = numsOf (xs.take j) ++ [⟨xs[j], hx, hxb⟩] := by
        rw [htk, nums_app, nums_cons, dif_pos ⟨hx, hxb⟩]
        rfl
      refine go_Sm ?_
      refine sl_build (size := 1) (e := 24) (cells := [Value.float .f64 xs[j]]) rfl (fun W => by kernel_rfl) rfl (by decide) rfl ?_
      intro gb
      refine sl_app (A := A1) (k := (numsOf (xs.take j)).length) (c := c1) rfl (by exact pick_) rfl (Vw.of_own (e := 24) (A := some ⟨gb, 0, none⟩) (c := 1) (by exact at_)) fl_one rfl infoF64 (by decide) (by decide) rfl (by unfold maxLen; omega) (by omega) ?_
      intro A2 c2
      rw [show (numsOf (xs.take j)).map Fp.v ++ [Value.float .f64 xs[j]] = (numsOf (xs.take (j + 1))).map Fp.v by rw [hnew, List.map_append]; rfl, show (numsOf (xs.take j)).length + 1 = (numsOf (xs.take (j + 1))).length by rw [hnew, List.length_append]; rfl]
      refine go_Sm ?_
      refine se_round ⟨j + 1, A2, c2⟩ (by exact has_) (by exact sub_) hlt (by show xs.length - (j + 1) < xs.length - j; omega)
  · obtain rfl : j = xs.length := by omega
    rw [List.take_length]
    have hlen := nums_len xs
    refine go_Sm ?_
    refine sl_call rfl rfl (by kernel_rfl) rfl Sub.refl (sortf_ok (by omega)) ?_
    rintro d ⟨hp, hs⟩
    have hdl := hp.length_eq
    rw [← hdl]
    by_cases h0 : d.length = 0
    · obtain rfl : d = [] := List.eq_nil_of_length_eq_zero h0
      refine go_Sm ?_
      refine sl_call rfl rfl (by kernel_rfl) rfl Sub.refl (fn_same nan_c) ?_
      rintro _ -
      refine go_Sm ?_
      refine sl_pu (pu_build (v := .agg #[.int .i64 0, .float .f64 9221120237041090561, .float .f64 9221120237041090561, .float .f64 9221120237041090561]) rfl (fun W => by kernel_rfl)) rfl ?_
      refine go_Sm ?_
      exact se_ret_c (x := []) ⟨hp, .nil⟩ rfl rfl (by exact at_) rfl rfl rfl rfl (by exact sub_)
    · refine sl_form (e := 24) (size := 1) (A := A1) (m := d.length) (by exact at_) (by omega) ?_
      rintro g rfl
      have n0 : nth (d.map Fp.v) (0 * 1) = some (.float .f64 d[0].x) := by
        rw [nth_eq, Nat.zero_mul, List.getElem?_map, List.getElem?_eq_getElem (by omega)]
        rfl
      have n1 : nth (d.map Fp.v) (((d.length : Int) - 1).toNat * 1) = some (.float .f64 d[d.length - 1].x) := by
        rw [nth_eq, Nat.mul_one, show ((d.length : Int) - 1).toNat = d.length - 1 by omega, List.getElem?_map, List.getElem?_eq_getElem (by omega)]
        rfl
      have n2 : nth (d.map Fp.v) ((((d.length : Int) - 1) / 2).toNat * 1) = some (.float .f64 d[(d.length - 1) / 2].x) := by
        rw [nth_eq, Nat.mul_one, show (((d.length : Int) - 1) / 2).toNat = (d.length - 1) / 2 by omega, List.getElem?_map, List.getElem?_eq_getElem (by omega)]
        rfl
      refine go_Sm ?_
      refine sd_drawn (fun W => AllP W [own 24 1 (some ⟨g, 0, none⟩) d.length c1 (d.map Fp.v)]) (fun _ => true) (by kernel_rfl) 17 rfl ?_
      refine sd_yes2 0 rfl (by exact gd_) (by kernel_rfl) (by kernel_rfl) (by exact nop_) (PuI.all (by exact pv_Sm)) rfl (fun w hw => all_ hw) ?_
      refine sd_yes2 1 rfl (by exact gd_) (by kernel_rfl) (by kernel_rfl) (by exact nop_) (PuI.all (by exact pv_Sm)) rfl (fun w hw => all_ hw) ?_
      refine sd_yes2 2 rfl (by exact gd_) (by kernel_rfl) (by kernel_rfl) (by exact nop_) (PuI.all (by exact pv_Sm)) rfl (fun w hw => all_ hw) ?_
      refine sd_yes2 3 rfl (by exact gd_) (by kernel_rfl) (by kernel_rfl) (by exact nop_) (PuI.all (by exact pv_Sm)) rfl (fun w hw => all_ hw) ?_
      refine sd_yes2 4 rfl (by exact gd_) (by kernel_rfl) (by kernel_rfl) (by exact nop_) (PuI.all (by exact pv_Sm)) rfl (fun w hw => all_ hw) ?_
      refine sd_yes2 5 rfl (by exact gd_) (by kernel_rfl) (by kernel_rfl) (by exact nop_) (PuI.all (by exact pv_Sm)) rfl (fun w hw => all_ hw) ?_
      refine sd_yes2 6 rfl (by exact gd_) (by kernel_rfl) (by kernel_rfl) (by exact nop_) (PuI.all (by exact pv_Sm)) rfl (fun w hw => all_ hw) ?_
      refine sd_yes2 7 rfl (by exact gd_) (by kernel_rfl) (by kernel_rfl) (by exact nop_) (PuI.all (by exact pv_Sm)) rfl (fun w hw => all_ hw) ?_
      refine sd_yes2 8 rfl (by exact gd_) (by kernel_rfl) (by kernel_rfl) (by exact nop_) (PuI.all (by exact pv_Sm)) rfl (fun w hw => all_ hw) ?_
      refine sd_yes2 9 rfl (by exact gd_) (by kernel_rfl) (by kernel_rfl) (by exact nop_) (PuI.all (by exact pv_Sm)) rfl (fun w hw => all_ hw) ?_
      refine sd_yes2 10 rfl (by exact gd_) (by kernel_rfl) (by kernel_rfl) (by exact nop_) (PuI.all (by exact pv_Sm)) rfl (fun w hw => all_ hw) ?_
      refine sd_yes2 11 rfl (by exact gd_) (by kernel_rfl) (by kernel_rfl) (by exact nop_) (PuI.all (by exact pv_Sm)) rfl (fun w hw => all_ hw) ?_
      refine sd_yes2 12 rfl (by exact gd_) (by kernel_rfl) (by kernel_rfl) (by exact nop_) (PuI.all (by exact pv_Sm)) rfl (fun w hw => all_ hw) ?_
      refine sd_yes2 13 rfl (by exact gd_) (by kernel_rfl) (by kernel_rfl) (by exact nop_) (PuI.all (by exact pv_Sm)) rfl (fun w hw => all_ hw) ?_
      refine sd_yes2 14 rfl (by exact gd_) (by kernel_rfl) (by kernel_rfl) (by exact nop_) (PuI.all (by exact pv_Sm)) rfl (fun w hw => all_ hw) ?_
      refine sd_yes2 15 rfl (by exact gd_) (by kernel_rfl) (by kernel_rfl) (by exact nop_) (pu_build (v := .agg #[.int .i64 d.length, .float .f64 d[0].x, .float .f64 d[d.length - 1].x, .float .f64 d[(d.length - 1) / 2].x]) rfl (fun W => by kernel_rfl)) rfl (fun w hw => all_ hw) ?_
      refine sd_one 16 (by kernel_rfl) (sa_sl 16 rfl ?_)
      refine sto_Sm ?_
      refine sl_nil ?_
      refine se_sd (fun _ w hw => all_ hw) ?_
      refine sd_done (by kernel_rfl) ?_
      refine go_Sm ?_
      exact se_ret_c (x := d) ⟨hp, hs⟩ rfl rfl (by exact at_) rfl rfl rfl (congrArg (fun l : List Value => Value.agg l.toArray) (summC_ne h0)) (by exact sub_)
end Go.Proofs.Ytidphdlhghgglaa
