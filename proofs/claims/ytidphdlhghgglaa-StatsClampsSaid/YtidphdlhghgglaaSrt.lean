/- The library's sort, by the shelf's contract, over facts. No program is in sight. -/
import Derived.Test.YtidphdlhghgglaaSp4
import Derived.Shelf.SlSortCmp.NoneTotal
namespace Go.Proofs.Ytidphdlhghgglaa
open Go.RowKit Go.Sort Go.Shelf
section
variable {α : Type} [Inhabited α] {enc : α → Value} {w : World} {g n c size : Nat} {e : TypeId} {d : Array α} {P : Program} {f : FuncId} {args : Array Value} {K : List Fa}
theorem holds_blk {cur : Array Value} (hb : Blk w g e cur) (ht : cur.toList.take d.size = d.toList.map enc) : Holds enc w g 0 d := by
  intro j hj
  unfold Blk at hb
  refine ⟨?_, by simp [World.frozen?, hb]⟩
  have h1 : (cur.toList.take d.size)[j]? = (d.toList.map enc)[j]? := by rw [ht]
  rw [List.getElem?_take_of_lt hj] at h1
  simp only [World.cell?, hb, Nat.zero_add]
  simp only [Option.isSome_none, Bool.false_eq_true, if_false]
  rw [← Array.getElem?_toList, h1]
  simp [hj]
theorem blk_sorted {cur : Array Value} {m : Nat} {os : Array Obj} (d : Array α) (hb : Blk w g e cur) : Blk (sortWorld enc w g 0 m d os) g e (putCells enc 0 d cur) := by
  unfold Blk at hb
  have hg : g < w.heap.size := (Array.getElem?_eq_some_iff.1 hb).1
  unfold Blk sortWorld
  rw [heap_grow_old _ _ (by simpa [putRow, mapBlock, Sort.ahead] using hg)]
  simp [putRow, mapBlock, Sort.ahead, Array.getElem?_modify, hb, onCells]
theorem fr_sorted {m : Nat} {os : Array Obj} (d : Array α) : Fr (fun j => j = g) w (sortWorld enc w g 0 m d os) := by
  unfold sortWorld
  refine ⟨rfl, rfl, rfl, by simp [putRow, mapBlock, Sort.ahead], fun k hk hne => ?_⟩
  rw [heap_grow_old _ _ (by simpa [putRow, mapBlock, Sort.ahead] using hk)]
  have : g ≠ k := fun e => hne e.symm
  simp [putRow, mapBlock, Sort.ahead, Array.getElem?_modify, this]
theorem take_put (cur : Array Value) (d : Array α) (h : d.size ≤ cur.size) : (putCells enc 0 d cur).toList.take d.size = d.toList.map enc := by
  apply List.ext_getElem?
  intro j
  by_cases hj : j < d.size
  · rw [List.getElem?_take_of_lt hj, Array.getElem?_toList]
    simp [putCells, hj, show j < cur.size by omega]
  · rw [List.getElem?_take_eq_none (by omega), List.getElem?_eq_none (by simp; omega)]
theorem sep_sorted (hw : Sep w (own e size (some ⟨g, 0, none⟩) n c (d.toList.map enc) :: K)) : Holds enc w g 0 d ∧ g < w.heap.size ∧ d.size = n * size ∧ n ≤ c ∧ ∀ (d' : Array α) m os, d'.size = d.size → Sep (sortWorld enc w g 0 m d' os) (own e size (some ⟨g, 0, none⟩) n c (d'.toList.map enc) :: K) := by
  have hO : w.ownsRow 0 e size (.slice (some ⟨g, 0, none⟩) n c) n (d.toList.map enc) := by
    have := hw.hd
    unfold own at this
    exact this
  obtain ⟨cur, hB, hkc, hcm, hcs, htk, hxl⟩ := own_open hO
  have hn : d.size = n * size := by simpa using hxl
  have hle : n * size ≤ c * size := Nat.mul_le_mul_right _ hkc
  refine ⟨holds_blk hB (by rw [hn]; exact htk), hB.lt, hn, hkc, fun d' m os hs => ?_⟩
  refine hw.step (fr_sorted d') (fun j _ e => by rw [own_F]; exact congrArg some e.symm) (own_mk (own_close (blk_sorted d' hB) hkc hcm (by simp [putCells, hcs]) ?_ (by simp [hs, hn]))) (fun j hj => .inl (by rw [own_F] at hj ⊢; exact hj))
  rw [← hn, ← hs]
  exact take_put _ _ (by omega)
theorem fn_sort1 {Φ : Array α → Prop} (h : ∀ w, Holds enc w g 0 d → g < w.heap.size → Calls P f args w fun x w' => x = .returned (.tuple #[]) ∧ ∃ d' m os, Φ d' ∧ d'.size = d.size ∧ w' = sortWorld enc w g 0 m d' os) :
    Fn P f args (own e 1 (some ⟨g, 0, none⟩) n c (d.toList.map enc) :: K) (Ret (fun x : Array α => Φ x ∧ x.size = d.size) (fun _ => .tuple #[]) (fun x => own e 1 (some ⟨g, 0, none⟩) n c (x.toList.map enc) :: K)) := by
  unfold Fn
  intro w hw
  obtain ⟨hH, hg, _, _, hS⟩ := sep_sorted hw
  refine (h w hH hg).mono ?_
  rintro x w' ⟨rfl, d', m, os, hφ, hs, rfl⟩
  exact ⟨d', ⟨hφ, hs⟩, rfl, hS d' m os hs⟩
theorem flat_list (enc : α → List Value) (k : Nat) (hk : ∀ x, (enc x).length = k) (d : Array α) : (flatK enc k d).toList.map id = d.toList.flatMap enc := by
  rw [List.map_id]
  apply List.ext_getElem?
  intro t
  by_cases ht : t < d.size * k
  · have k0 : 0 < k := by
      rcases Nat.eq_zero_or_pos k with h | h
      · subst h; simp at ht
      · exact h
    have h1 := get_flatK enc k d t ht
    have hs : (flatK enc k d).size = d.size * k := by simp
    have h2 : t / k < d.size := by
      rw [Nat.div_lt_iff_lt_mul k0]
      exact ht
    have h3 : t % k < (enc d[t / k]!).length := by rw [hk]; exact Nat.mod_lt _ k0
    have h4 : ∀ (l : List α) (q r : Nat), r < k → ∀ x, l[q]? = some x → (l.flatMap enc)[q * k + r]? = (enc x)[r]? := by
      intro l
      induction l with
      | nil => intro q r _ x hx; simp at hx
      | cons a l ih =>
        intro q r hr x hx
        rw [List.flatMap_cons]
        cases q with
        | zero =>
          simp only [List.getElem?_cons_zero, Option.some.injEq] at hx
          subst hx
          rw [Nat.zero_mul, Nat.zero_add, List.getElem?_append_left (by rw [hk]; exact hr)]
        | succ q =>
          simp only [List.getElem?_cons_succ] at hx
          rw [List.getElem?_append_right (by rw [hk, Nat.succ_mul]; omega), hk, show (q + 1) * k + r - k = q * k + r by rw [Nat.succ_mul]; omega]
          exact ih q r hr x hx
    have h5 := h4 d.toList (t / k) (t % k) (Nat.mod_lt _ k0) d[t / k]! (by simp [h2])
    rw [Nat.div_add_mod' t k] at h5
    rw [h5, Array.getElem?_toList, Array.getElem?_eq_getElem (by rw [hs]; exact ht), List.getElem?_eq_getElem h3]
    rw [getElem!_pos _ t (by rw [hs]; exact ht)] at h1
    rw [h1, getElem!_pos (enc d[t / k]!) (t % k) h3]
  · have h6 : ∀ (l : List α), (l.flatMap enc).length = l.length * k := by
      intro l
      induction l with
      | nil => simp
      | cons a l ih => rw [List.flatMap_cons, List.length_append, ih, hk, List.length_cons, Nat.succ_mul]; omega
    rw [List.getElem?_eq_none (by simp; omega), List.getElem?_eq_none (by rw [h6]; simp; omega)]
theorem fn_sortK {enc : α → List Value} {k : Nat} (hk : ∀ x, (enc x).length = k) {Φ : Array α → Prop} (h : ∀ w, HoldsK enc k w g 0 d → g < w.heap.size → Calls P f args w fun x w' => x = .returned (.tuple #[]) ∧ ∃ d' m os, Φ d' ∧ d'.size = d.size ∧ w' = sortWorldK enc k w g 0 m d' os) :
    Fn P f args (own e k (some ⟨g, 0, none⟩) n c (d.toList.flatMap enc) :: K) (Ret (fun x : Array α => Φ x ∧ x.size = d.size) (fun _ => .tuple #[]) (fun x => own e k (some ⟨g, 0, none⟩) n c (x.toList.flatMap enc) :: K)) := by
  unfold Fn
  intro w hw
  rw [← flat_list enc k hk d] at hw
  obtain ⟨hH, hg, _, _, hS⟩ := sep_sorted hw
  refine (h w hH hg).mono ?_
  rintro x w' ⟨rfl, d', m, os, hφ, hs, rfl⟩
  refine ⟨d', ⟨hφ, hs⟩, rfl, ?_⟩
  have h1 := hS (flatK enc k d') m os (by simp [hs])
  rw [flat_list enc k hk d'] at h1
  exact h1
end
end Go.Proofs.Ytidphdlhghgglaa
