/- What came in, with how much it weighs: slices of structs with slices in them. No program is in sight. -/
import Derived.Test.YtinomilmccopnaaOp
import Derived.SizedLaws
namespace Go.Proofs.Ytinomilmccopnaa
open Go.RowKit Go.ChangeShapes Go.WideShapes Go.Deep
/-- Nothing of a datum is of more bytes than may be. -/
def Wt {H : Type} (P : Program) (t : TypeId) (d : DataW H) : Prop := ∀ n ∈ d.weights P t, n ≤ reachBytes
section
variable {H : Type} {enc : TypeId × Value → H} {P : Program} {w : World} {base : Nat} {spare : Nat → Bool} {held : Bool} {fuel : Nat} {t e : TypeId} {cs : List Value} {x : DataW H × List MemPlace}
theorem wt_all {l : List (DataW H)} {d : DataW H} (h : ∀ n ∈ DataW.weightsAll P e l, n ≤ reachBytes) (hd : d ∈ l) : Wt P e d := by
  induction l with
  | nil => cases hd
  | cons a r ih =>
    have h1 : DataW.weightsAll P e (a :: r) = a.weights P e ++ DataW.weightsAll P e r := by simp [DataW.weightsAll]
    rw [h1] at h
    rcases List.mem_cons.1 hd with hh | hh
    · subst hh
      exact fun n hn => h n (List.mem_append_left _ hn)
    · exact ih (fun n hn => h n (List.mem_append_right _ hn)) hh
theorem wt_slice {elems rest : List (DataW H)} (ht : P.underlying t = some (.slice e)) (h : Wt P t (.slice elems rest)) : (elems.length + rest.length) * P.bytesOf e ≤ reachBytes ∧ ∀ d ∈ elems, Wt P e d := by
  have h1 : (DataW.slice elems rest).weights P t = (elems.length + rest.length) * P.bytesOf e :: (DataW.weightsAll P e elems ++ DataW.weightsAll P e rest) := by simp [DataW.weights, ht]
  unfold Wt at h
  rw [h1] at h
  exact ⟨h _ (List.mem_cons_self ..), fun d hd => wt_all (fun n hn => h n (List.mem_cons_of_mem _ (List.mem_append_left _ hn))) hd⟩
theorem open_rowsW {X : Type} [Inhabited X] (sz : Nat) (toC : X → List Value) (ok : X → Prop) (ht : P.underlying t = some (.slice e)) (hC : P.cellsOf e = sz)
    (hX : ∀ n cs y, DataW.trod enc P w base spare held n e cs = some y → Wt P e y.1 → ∃ x, cs = toC x ∧ ok x) (h : DataW.trod enc P w base spare held fuel t cs = some x) (hw : Wt P t x.1) :
    ∃ (A : Option Addr) (n c : Nat) (xs : List X), cs = [.slice A n c] ∧ xs.length = n ∧ Reads w sz A n (xs.flatMap toC) ∧ (∀ x ∈ xs, ok x ∧ (toC x).length = sz) ∧ n ≤ c ∧ c ≤ maxLen ∧ n * P.bytesOf e ≤ reachBytes := by
  rcases open_slice ht h with ⟨rfl, _⟩ | ⟨a, len, cap, m, n, D, Pl, rfl, _, hl, hm, hmm, hx, hi⟩
  · exact ⟨none, 0, 0, [], rfl, rfl, Reads.nil_ _, (fun x hx => by cases hx), Nat.le_refl _, Nat.zero_le _, by omega⟩
  · have hlm : len ≤ m := by rw [hmm]; split <;> omega
    rw [hx] at hw
    obtain ⟨hw1, hw2⟩ := wt_slice ht hw
    have hone : ∀ i, i < len → ∃ x : X, (ok x ∧ (toC x).length = sz) ∧ ∀ r u, (toC x)[r]? = some u → w.cell? (a.add (i * sz + r)) = some u := by
      intro i hil
      obtain ⟨cs', hc, ht'⟩ := hi i (by omega)
      obtain ⟨x, rfl, hx⟩ := hX _ _ _ ht' (hw2 _ (List.mem_map_of_mem (List.mem_range.2 hil)))
      obtain ⟨_, hlen, hat⟩ := World.cells?_some hc
      rw [hC] at hlen hat
      refine ⟨x, ⟨hx, hlen⟩, fun r u hu => ?_⟩
      have hr : r < (toC x).length := (List.getElem?_eq_some_iff.1 hu).1
      have h1 := hat r (by omega)
      rw [Go.Deep.add_add] at h1
      rw [h1, hu]
    obtain ⟨f, hf⟩ := choose_lt hone
    have hmem : ∀ x ∈ (List.range len).map f, ok x ∧ (toC x).length = sz := by
      intro x hx
      obtain ⟨i, hi2, rfl⟩ := List.mem_map.1 hx
      exact (hf i (List.mem_range.1 hi2)).1
    refine ⟨some a, len, cap, (List.range len).map f, rfl, by simp, ⟨by rw [flatMap_len toC _ (fun x hx => (hmem x hx).2)]; simp, fun _ => ⟨a, rfl, fun j u hu => ?_⟩⟩, hmem, hl, hm, ?_⟩
    · obtain ⟨i, r, x, h1, h2, rfl⟩ := flatMap_at toC _ (fun x hx => (hmem x hx).2) j u hu
      have hil : i < len := by have := (List.getElem?_eq_some_iff.1 h1).1; simpa using this
      simp [hil] at h1
      subst h1
      exact (hf i hil).2 r u h2
    · refine Nat.le_trans (Nat.mul_le_mul_right _ ?_) hw1
      simp
theorem open_structW {fs : Array Field} (ht : P.underlying t = some (.struct fs)) (h : DataW.trod enc P w base spare held fuel t cs = some x) (hw : Wt P t x.1) : cs.length = P.cellsOf t ∧ ∃ m, ∀ (i : Nat) (f : Field), fs[i]? = some f → ∃ y, DataW.trod enc P w base spare held m f.type ((cs.drop f.offset).take (P.cellsOf f.type)) = some y ∧ Wt P f.type y.1 := by
  obtain ⟨xs, m, _, hx, hlen, hyl, hf⟩ := DataW.trod_struct ht h
  refine ⟨hlen, m, fun i f hi => ?_⟩
  have hil : i < xs.length := by rw [hyl]; exact (Array.getElem?_eq_some_iff.1 hi).1
  refine ⟨xs[i], by rw [hf i f hi, List.getElem?_eq_getElem hil], fun n hn => hw n ?_⟩
  rw [hx]
  have h1 : (DataW.agg (xs.map (·.1))).weights P t = DataW.weightsEach P (fs.toList.map (·.type)) (xs.map (·.1)) := by simp [DataW.weights, ht]
  show n ∈ (DataW.agg (xs.map (·.1))).weights P t
  rw [h1]
  refine DataW.weights_mem_each (j := i) (t := f.type) (d := xs[i].1) ?_ ?_ n hn
  · rw [List.getElem?_map, Array.getElem?_toList, hi]
    rfl
  · rw [List.getElem?_map, List.getElem?_eq_getElem hil]
    rfl
end
theorem wt_of {H : Type} {P : Program} {ts : List TypeId} {ds : List (DataW H)} (h : (DataW.weightsEach P ts ds).all (· ≤ reachBytes) = true) {j : Nat} {t : TypeId} {d : DataW H} (ht : ts[j]? = some t) (hd : ds[j]? = some d) : Wt P t d := fun n hn => by
  have := List.all_eq_true.1 h n (DataW.weights_mem_each ht hd n hn)
  simpa using this
end Go.Proofs.Ytinomilmccopnaa
