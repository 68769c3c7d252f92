/- What came in, opened to cells: bytes, arrays of bytes. No program is in sight. -/
import Derived.Test.YtfnjeojaahnlfaaDoorMem
import Derived.Test.YtfnjeojaahnlfaaDoorNum
import Derived.Deep.Slices
import Derived.OpenShut
namespace Go.Proofs.YtfnjeojaahnlfaaDoor
open Go.RowKit Go.ChangeShapes Go.WideShapes Go.Deep

section
variable {H : Type} {enc : TypeId × Value → H} {P : Program} {w : World} {base : Nat} {spare : Nat → Bool} {held : Bool} {fuel : Nat} {t e : TypeId} {cs : List Value} {x : DataW H × List MemPlace}

/-- Bytes that came in. -/
def BytesIs (w : World) (v : Value) (bs : List Int) : Prop := ∃ A n c, v = .slice A n c ∧ Reads w 1 A n (bytes bs) ∧ IsBytes bs ∧ n ≤ c ∧ c ≤ maxLen

theorem open_bytes (ht : P.underlying t = some (.slice e)) (he : P.underlying e = some (.int .u8)) (hc : P.cellsOf e = 1) (h : DataW.trod enc P w base spare held fuel t cs = some x) : ∃ v bs, cs = [v] ∧ BytesIs w v bs := by
  rcases open_ints ht he hc h with ⟨rfl, _⟩ | ⟨a, len, cap, zs, rfl, _, hl, hm, hz, _, hcell, hw⟩
  · exact ⟨_, [], rfl, ⟨none, 0, 0, rfl, Reads.nil_ _, (by intro y hy; cases hy), Nat.le_refl _, Nat.zero_le _⟩⟩
  · have hlz : len ≤ zs.length := by rw [hz]; split <;> omega
    refine ⟨_, zs.take len, rfl, ⟨some a, len, cap, rfl, ⟨by simp [bytes]; omega, fun _ => ⟨a, rfl, fun j u hu => ?_⟩⟩, ?_, hl, hm⟩⟩
    · have hj : j < len := by
        have := (List.getElem?_eq_some_iff.1 hu).1
        simp [bytes] at this
        omega
      rw [hcell j (by omega)]
      simp [bytes, List.getElem?_take, hj, List.getElem?_eq_getElem (show j < zs.length by omega)] at hu
      rw [← hu]
      simp [List.getD, List.getElem?_eq_getElem (show j < zs.length by omega)]
    · intro y hy
      have h2 : 0 ≤ y ∧ y ≤ 255 := by simpa [Lit.wf, IntKind.min, IntKind.max, IntKind.signed, IntKind.bits] using hw y (List.mem_of_mem_take hy)
      omega

/-- An array of bytes that came in. -/
theorem open_array {n : Nat} (ht : P.underlying t = some (.array n e)) (he : P.underlying e = some (.int .u8)) (hc : P.cellsOf e = 1) (hn : P.cellsOf t = n) (h : DataW.trod enc P w base spare held fuel t cs = some x) : ∃ bs, cs = bytes bs ∧ bs.length = n ∧ IsBytes bs := by
  obtain ⟨xs, m, _, _, hl, hx, hi⟩ := DataW.trod_array ht h
  rw [hn] at hl
  have hone : ∀ i, i < n → ∃ z : Int, cs[i]? = some (.int .u8 z) ∧ 0 ≤ z ∧ z < 256 := by
    intro i hin
    have h1 := hi i hin
    rw [hc, Nat.mul_one, List.getElem?_eq_getElem (by omega)] at h1
    obtain ⟨z, h2, _, h3⟩ := DataW.trod_int he h1
    have h4 : 0 ≤ z ∧ z ≤ 255 := by simpa [Lit.wf, IntKind.min, IntKind.max, IntKind.signed, IntKind.bits] using h3
    refine ⟨z, ?_, by omega, by omega⟩
    have h5 : ((cs.drop i).take 1)[0]? = some (.int .u8 z) := by rw [h2]; rfl
    simpa using h5
  obtain ⟨f, hf⟩ := choose_lt hone
  refine ⟨(List.range n).map f, ?_, by simp, ?_⟩
  · apply List.ext_getElem?
    intro i
    by_cases hin : i < n
    · rw [(hf i hin).1]; simp [bytes, hin]
    · rw [List.getElem?_eq_none (by omega)]; simp [bytes, hin]
  · intro y hy
    obtain ⟨i, hi2, rfl⟩ := List.mem_map.1 hy
    exact (hf i (List.mem_range.1 hi2)).2
end

/-- A list of rows of sz cells each, cell by cell. -/
theorem flatMap_at {X : Type} {sz : Nat} (toC : X → List Value) : ∀ (xs : List X), (∀ x ∈ xs, (toC x).length = sz) → ∀ (j : Nat) (u : Value), (xs.flatMap toC)[j]? = some u → ∃ i r x, xs[i]? = some x ∧ (toC x)[r]? = some u ∧ j = i * sz + r
  | [], _, j, u, h => by simp at h
  | x :: xs, hl, j, u, h => by
    rw [List.flatMap_cons] at h
    by_cases hj : j < (toC x).length
    · rw [List.getElem?_append_left hj] at h
      exact ⟨0, j, x, rfl, h, by simp⟩
    · rw [List.getElem?_append_right (by omega)] at h
      obtain ⟨i, r, y, h1, h2, h3⟩ := flatMap_at toC xs (fun y hy => hl y (List.mem_cons_of_mem _ hy)) _ u h
      have := hl x (List.mem_cons_self ..)
      refine ⟨i + 1, r, y, by simpa using h1, h2, ?_⟩
      rw [Nat.succ_mul]
      omega
theorem flatMap_get {X : Type} {sz : Nat} (toC : X → List Value) : ∀ (xs : List X), (∀ x ∈ xs, (toC x).length = sz) → ∀ (i r : Nat) (x : X) (u : Value), xs[i]? = some x → (toC x)[r]? = some u → (xs.flatMap toC)[i * sz + r]? = some u
  | [], _, i, r, x, u, h, _ => by simp at h
  | y :: ys, hl, 0, r, x, u, h, hu => by
    simp at h
    subst h
    rw [List.flatMap_cons, Nat.zero_mul, Nat.zero_add, List.getElem?_append_left (List.getElem?_eq_some_iff.1 hu).1]
    exact hu
  | y :: ys, hl, i + 1, r, x, u, h, hu => by
    rw [List.flatMap_cons, List.getElem?_append_right (by rw [hl y (List.mem_cons_self ..), Nat.succ_mul]; omega), hl y (List.mem_cons_self ..), Nat.succ_mul, show i * sz + sz + r - sz = i * sz + r from by omega]
    exact flatMap_get toC ys (fun z hz => hl z (List.mem_cons_of_mem _ hz)) i r x u (by simpa using h) hu
theorem flatMap_len {X : Type} {sz : Nat} (toC : X → List Value) (xs : List X) (hl : ∀ x ∈ xs, (toC x).length = sz) : (xs.flatMap toC).length = xs.length * sz := by
  induction xs with
  | nil => simp
  | cons x r ih => rw [List.flatMap_cons, List.length_append, ih (fun y hy => hl y (List.mem_cons_of_mem _ hy)), hl x (List.mem_cons_self ..), List.length_cons, Nat.succ_mul, Nat.add_comm]

section
variable {H : Type} {enc : TypeId × Value → H} {P : Program} {w : World} {base : Nat} {spare : Nat → Bool} {held : Bool} {fuel : Nat} {t e : TypeId} {cs : List Value} {x : DataW H × List MemPlace}
/-- A slice of rows that came in: the elements, each by its own law. -/
theorem open_rows {X : Type} [Inhabited X] (sz : Nat) (toC : X → List Value) (ok : X → Prop) (ht : P.underlying t = some (.slice e)) (hC : P.cellsOf e = sz)
    (hX : ∀ n cs y, DataW.trod enc P w base spare held n e cs = some y → ∃ x, cs = toC x ∧ ok x) (h : DataW.trod enc P w base spare held fuel t cs = some x) :
    ∃ (A : Option Addr) (n c : Nat) (xs : List X), cs = [.slice A n c] ∧ xs.length = n ∧ Reads w sz A n (xs.flatMap toC) ∧ (∀ x ∈ xs, ok x ∧ (toC x).length = sz) ∧ n ≤ c ∧ c ≤ maxLen := by
  rcases open_slice ht h with ⟨rfl, _⟩ | ⟨a, len, cap, m, n, D, Pl, rfl, _, hl, hm, hmm, _, hi⟩
  · exact ⟨none, 0, 0, [], rfl, rfl, Reads.nil_ _, (fun x hx => by cases hx), Nat.le_refl _, Nat.zero_le _⟩
  · have hlm : len ≤ m := by rw [hmm]; split <;> omega
    have hone : ∀ i, i < len → ∃ x : X, (ok x ∧ (toC x).length = sz) ∧ ∀ r u, (toC x)[r]? = some u → w.cell? (a.add (i * sz + r)) = some u := by
      intro i hil
      obtain ⟨cs', hc, ht'⟩ := hi i (by omega)
      obtain ⟨x, rfl, hx⟩ := hX _ _ _ ht'
      obtain ⟨_, hlen, hat⟩ := World.cells?_some hc
      rw [hC] at hlen hat
      refine ⟨x, ⟨hx, hlen⟩, fun r u hu => ?_⟩
      have hr : r < (toC x).length := (List.getElem?_eq_some_iff.1 hu).1
      have h1 := hat r (by omega)
      rw [Go.Deep.add_add] at h1
      rw [h1, hu]
    obtain ⟨f, hf⟩ := choose_lt hone
    have hmem : ∀ x ∈ (List.range len).map f, ok x ∧ (toC x).length = sz := by
      intro x hx
      obtain ⟨i, hi2, rfl⟩ := List.mem_map.1 hx
      exact (hf i (List.mem_range.1 hi2)).1
    refine ⟨some a, len, cap, (List.range len).map f, rfl, by simp, ⟨by rw [flatMap_len toC _ (fun x hx => (hmem x hx).2)]; simp, fun _ => ⟨a, rfl, fun j u hu => ?_⟩⟩, hmem, hl, hm⟩
    obtain ⟨i, r, x, h1, h2, rfl⟩ := flatMap_at toC _ (fun x hx => (hmem x hx).2) j u hu
    have hil : i < len := by have := (List.getElem?_eq_some_iff.1 h1).1; simpa using this
    simp [hil] at h1
    subst h1
    exact (hf i hil).2 r u h2
end

section
variable {H : Type} {enc : TypeId × Value → H} {P : Program} {w : World} {base : Nat} {spare : Nat → Bool} {held : Bool} {fuel : Nat} {t e : TypeId} {cs : List Value} {x : DataW H × List MemPlace}
/-- A struct that came in, field by field. -/
theorem open_struct {fs : Array Field} (ht : P.underlying t = some (.struct fs)) (h : DataW.trod enc P w base spare held fuel t cs = some x) : cs.length = P.cellsOf t ∧ ∃ m, ∀ (i : Nat) (f : Field), fs[i]? = some f → ∃ y, DataW.trod enc P w base spare held m f.type ((cs.drop f.offset).take (P.cellsOf f.type)) = some y := by
  obtain ⟨xs, m, _, _, hlen, hyl, hf⟩ := DataW.trod_struct ht h
  refine ⟨hlen, m, fun i f hi => ?_⟩
  have hil : i < xs.length := by rw [hyl]; exact (Array.getElem?_eq_some_iff.1 hi).1
  exact ⟨xs[i], by rw [hf i f hi, List.getElem?_eq_getElem hil]⟩
theorem open_slice_any (ht : P.underlying t = some (.slice e)) (h : DataW.trod enc P w base spare held fuel t cs = some x) : ∃ v, cs = [v] ∧ ∃ A n c, v = .slice A n c := by
  rcases open_slice ht h with ⟨rfl, _⟩ | ⟨a, len, cap, m, n, D, Pl, rfl, _⟩
  · exact ⟨_, rfl, _, _, _, rfl⟩
  · exact ⟨_, rfl, _, _, _, rfl⟩
theorem piece {cs : List Value} (a n b : Nat) (hb : a + n = b) : cs.drop a = (cs.drop a).take n ++ cs.drop b := by
  subst hb
  rw [← List.drop_drop, List.take_append_drop]
theorem piece_end {cs : List Value} {n : Nat} (h : cs.length = n) : cs.drop n = [] := List.drop_of_length_le (Nat.le_of_eq h)
end
theorem okWide_arr {P : Program} {w : World} {r : Reach} {base : Nat} {t e : TypeId} {n : Nat} {v : Value} (ht : P.underlying t = some (.array n e)) (h : Value.okWide P w r base t v) : ∃ cs, v = .agg cs := by
  simp only [Value.okWide, ht] at h
  obtain ⟨cs, h, _⟩ := h
  exact ⟨cs, h⟩
theorem okWide_str {P : Program} {w : World} {r : Reach} {base : Nat} {t : TypeId} {fs : Array Field} {v : Value} (ht : P.underlying t = some (.struct fs)) (h : Value.okWide P w r base t v) : ∃ cs, v = .agg cs := by
  simp only [Value.okWide, ht] at h
  obtain ⟨cs, h, _⟩ := h
  exact ⟨cs, h⟩
end Go.Proofs.YtfnjeojaahnlfaaDoor
