/- A region that draws its order: what only reads is taken first, and that what it reads stays is owed only behind those operations that do not wait for all that reads. No program is in sight. -/
import Derived.OrdersHeld
import Derived.NoCompiler
import Derived.Tactics
namespace Go.Proofs.YtfnjeojaahnlfaaDoor
open Go

section
variable {P : Program} {ops : Array Oper} {Q : Exit → Act → World → Prop} {md : Region.Mode} {S : World → Prop} {need : Nat → Bool}

/-- Whatever order is picked from here on; behind an operation that 'need' names S holds. -/
def wpAnyD (P : Program) (md : Region.Mode) (ops : Array Oper) (Q : Exit → Act → World → Prop) (S : World → Prop) (need : Nat → Bool) : Nat → Array Bool → Act → World → Prop
  | 0, listed, a, w => Region.ready md ops listed = [] ∧ Q .normal a w
  | fuel + 1, listed, a, w =>
    (Region.ready md ops listed = [] → Q .normal a w) ∧
    ∀ i ∈ Region.ready md ops listed, wpOp P ops Q i (fun a' w' => (need i = true → S w') ∧ wpAnyD P md ops Q S need fuel (listed.setIfInBounds i true) a' w') a w

theorem wpAny_of_D : ∀ (fuel : Nat) (listed : Array Bool) (a : Act) (w : World), wpAnyD P md ops Q S need fuel listed a w → wpAny P md ops Q fuel listed a w
  | 0, _, _, _, h => h
  | fuel + 1, _, _, _, h => ⟨h.1, fun i hi => wpOp_mono (fun a' w' h' => wpAny_of_D fuel _ a' w' h'.2) (h.2 i hi)⟩

theorem wpAnyD_first {i : Nat} {oi : Oper} {v : Value} (hi : ops[i]? = some oi) (hsel : ∀ (j : Nat) (o : Oper) cs b, ops[j]? = some o → o.op ≠ .select cs b)
    (hQ : ∀ c a w, Q (.panic c) (a.put oi.dst v) w → Q (.panic c) a w)
    (hneed : ∀ j oj, ops[j]? = some oj → j ≠ i → (∀ e ∈ oj.after, Region.binds md e = true → e.on ≠ i) → need j = true) :
    ∀ (fuel : Nat) (listed : Array Bool) (a : Act) (w : World),
      (∀ j oj, ops[j]? = some oj → j ≠ i → listed.getD j true = false → (∀ e ∈ oj.after, Region.binds md e = true → e.on ≠ i) → oi.apart ops oj = true) →
      i ∈ Region.ready md ops listed → YieldsIf P ops S oi v a → S w →
      wpAnyD P md ops Q S need fuel (listed.setIfInBounds i true) (a.put oi.dst v) w → wpAnyD P md ops Q S need (fuel + 1) listed a w := by
  intro fuel
  induction fuel with
  | zero =>
    intro listed a w _ hr hy hS H
    refine ⟨fun h => (by rw [h] at hr; cases hr), fun j hj => ?_⟩
    by_cases hji : j = i
    · subst hji; exact hy.wpOp hi hS ⟨fun _ => hS, H⟩
    · have := ready_mono hj hji
      rw [H.1] at this
      cases this
  | succ fuel ih =>
    intro listed a w hfree hr hy hS H
    refine ⟨fun h => (by rw [h] at hr; cases hr), fun j hj => ?_⟩
    by_cases hji : j = i
    · subst hji; exact hy.wpOp hi hS ⟨fun _ => hS, H⟩
    · have h1 := H.2 j (ready_mono hj hji)
      obtain ⟨hjun, oj, hoj, hall⟩ := mem_ready.1 hj
      have hnot : ∀ e ∈ oj.after, Region.binds md e = true → e.on ≠ i := fun e he hb heq => by
        have h1 := hall e he hb
        have h0 := (mem_ready.1 hr).1
        rw [heq] at h1
        rcases Nat.lt_or_ge i listed.size with h' | h'
        · simp [h'] at h0 h1; rw [h0] at h1; cases h1
        · simp [Array.getElem?_eq_none h'] at h1
      have hnd := hneed j oj hoj hji hnot
      have h2 := wpOp_putIf hoj (hfree j oj hoj hji hjun hnot) (fun cs b => hsel i oi cs b hi) (fun cs b => hsel j oj cs b hoj) hQ hy h1
      have hfree' : ∀ k ok, ops[k]? = some ok → k ≠ i → (listed.setIfInBounds j true).getD k true = false →
          (∀ e ∈ ok.after, Region.binds md e = true → e.on ≠ i) → oi.apart ops ok = true := fun k ok hk hki hun hno => by
        refine hfree k ok hk hki ?_ hno
        by_cases hjk : j = k
        · subst hjk; exact hjun
        · rw [getD_set_ne true hjk] at hun; exact hun
      refine wpOp_mono (fun a' w' h3 => ⟨h3.2.1, ih (listed.setIfInBounds j true) a' w' hfree' (ready_mono hr (Ne.symm hji)) h3.1 (h3.2.1 hnd) ?_⟩) h2
      rw [Array.setIfInBounds_comm _ _ hji]
      exact h3.2.2

/-- Does every operation that does not wait for number i stand in 'need'? -/
def needOk (md : Region.Mode) (ops : Array Oper) (need : Nat → Bool) (i : Nat) : Bool :=
  (List.range ops.size).all fun j => j == i || need j || ((ops[j]?).map fun o => o.after.any fun e => Region.binds md e && e.on == i).getD true

theorem needOk_spec {i : Nat} (h : needOk md ops need i = true) (j : Nat) (oj : Oper) (hj : ops[j]? = some oj) (hji : j ≠ i) (hno : ∀ e ∈ oj.after, Region.binds md e = true → e.on ≠ i) : need j = true := by
  unfold needOk at h
  rw [List.all_eq_true] at h
  have hlt : j < ops.size := (Array.getElem?_eq_some_iff.1 hj).1
  have h1 := h j (List.mem_range.2 hlt)
  simp only [hj, Option.map_some, Option.getD_some, Bool.or_eq_true, beq_iff_eq] at h1
  rcases h1 with (h1 | h1) | h1
  · exact absurd h1 hji
  · exact h1
  · rw [Array.any_eq_true] at h1
    obtain ⟨k, hk, he⟩ := h1
    rw [Bool.and_eq_true, beq_iff_eq] at he
    exact absurd he.2 (hno _ (Array.getElem_mem hk) he.1)

/-- Number i is taken first. -/
theorem D_take {i : Nat} {oi : Oper} {v : Value} {fuel : Nat} {listed : Array Bool} {a : Act} {w : World} (hi : ops[i]? = some oi)
    (hB : (Region.noSelect ops && Region.free md ops listed i && (Region.ready md ops listed).contains i && needOk md ops need i) = true)
    (hQ : ∀ c a d u w, Q (.panic c) (Act.put a d u) w → Q (.panic c) a w) (hy : YieldsIf P ops S oi v a) (hS : S w)
    (h : wpAnyD P md ops Q S need fuel (listed.setIfInBounds i true) (a.put oi.dst v) w) : wpAnyD P md ops Q S need (fuel + 1) listed a w := by
  simp only [Bool.and_eq_true] at hB
  obtain ⟨⟨⟨h1, h2⟩, h3⟩, h4⟩ := hB
  exact wpAnyD_first hi (Region.noSelect_spec h1) (fun c a w => hQ c a _ _ w) (needOk_spec h4) fuel listed a w (Region.free_spec hi h2) (by simpa using h3) hy hS h

/-- A state in which only number i may come up. -/
theorem D_one {i : Nat} {fuel : Nat} {listed : Array Bool} {a : Act} {w : World} (hr : Region.ready md ops listed = [i])
    (h : wpOp P ops Q i (fun a' w' => (need i = true → S w') ∧ wpAnyD P md ops Q S need fuel (listed.setIfInBounds i true) a' w') a w) : wpAnyD P md ops Q S need (fuel + 1) listed a w :=
  ⟨fun h0 => (by rw [hr] at h0; cases h0), fun j hj => by
    rw [hr] at hj
    obtain rfl : j = i := by simpa using hj
    exact h⟩

theorem D_done {listed : Array Bool} {a : Act} {w : World} (hr : Region.ready md ops listed = []) (h : Q .normal a w) : ∀ fuel, wpAnyD P md ops Q S need fuel listed a w
  | 0 => ⟨hr, h⟩
  | _ + 1 => ⟨fun _ => h, by rw [hr]; simp⟩

/-- The beginning. -/
theorem D_region (S : World → Prop) (need : Nat → Bool) {id : Nat} {a : Act} {w : World} (hm : P.follows .mixedOrders = true)
    (h : wpAnyD P .any ops Q S need ops.size (Array.replicate ops.size false) a w.drew) : (Code.region id ops true).wp P Q a w :=
  wp_region_any hm (wpAny_of_D _ _ _ _ h)

/-- An operation that runs to a value. -/
theorem D_run {i : Nat} {o : Oper} {K : Act → World → Prop} {a : Act} {w w' : World} {v : Value} (ho : ops[i]? = some o) (hw : Region.wanted o (yielded ops a.tmps) = true)
    (hrun : (execOp a.eval o).run P w = .ok (.value v) w') (h : K (a.put o.dst v) w') : wpOp P ops Q i K a w := by
  unfold wpOp
  rw [ho]
  simp only [hw, if_true]
  refine .inl ?_
  unfold Oper.wp
  rw [hrun]
  exact h
theorem D_skip {i : Nat} {o : Oper} {K : Act → World → Prop} {a : Act} {w w' : World} (ho : ops[i]? = some o) (hw : Region.wanted o (yielded ops a.tmps) = true)
    (hrun : (execOp a.eval o).run P w = .ok .skip w') (h : K (a.put o.dst undef) w') : wpOp P ops Q i K a w := by
  unfold wpOp
  rw [ho]
  simp only [hw, if_true]
  refine .inl ?_
  unfold Oper.wp
  rw [hrun]
  exact h
/-- Any other operation: by its own law. -/
theorem D_wp {i : Nat} {o : Oper} {K : Act → World → Prop} {a : Act} {w : World} (ho : ops[i]? = some o) (hw : Region.wanted o (yielded ops a.tmps) = true)
    (h : o.wp P a w K Q) : wpOp P ops Q i K a w := by
  unfold wpOp
  rw [ho]
  simp only [hw, if_true]
  exact .inl h
end

/-- All of 'pre' are taken first, each with its value, in the list's order. -/
def yieldsAll (P : Program) (ops : Array Oper) (S : World → Prop) : List (Nat × Value) → Act → Prop
  | [], _ => True
  | (i, v) :: r, a => ∃ oi, ops[i]? = some oi ∧ YieldsIf P ops S oi v a ∧ yieldsAll P ops S r (a.put oi.dst v)
def putAll (ops : Array Oper) : List (Nat × Value) → Act → Act
  | [], a => a
  | (i, v) :: r, a => putAll ops r (a.put ((ops[i]?).bind (·.dst)) v)
def listAll : List Nat → Array Bool → Array Bool
  | [], l => l
  | i :: r, l => listAll r (l.setIfInBounds i true)
def preOk (md : Region.Mode) (ops : Array Oper) (need : Nat → Bool) : List Nat → Array Bool → Bool
  | [], _ => true
  | i :: r, l => Region.noSelect ops && Region.free md ops l i && (Region.ready md ops l).contains i && needOk md ops need i && preOk md ops need r (l.setIfInBounds i true)

theorem Y_nil {P : Program} {ops : Array Oper} {S : World → Prop} {a : Act} : yieldsAll P ops S [] a := trivial
theorem Y_cons {P : Program} {ops : Array Oper} {S : World → Prop} {i : Nat} {v : Value} {r : List (Nat × Value)} {a : Act} {oi : Oper} (hi : ops[i]? = some oi) (hw : Region.wanted oi (yielded ops a.tmps) = true)
    (hrun : ∀ W, S W → (execOp a.eval oi).run P W = .ok (.value v) W) (hr : yieldsAll P ops S r (a.put oi.dst v)) : yieldsAll P ops S ((i, v) :: r) a := ⟨oi, hi, .inl ⟨hw, hrun⟩, hr⟩
/-- A guarded operation that does not run. -/
theorem Y_skip {P : Program} {ops : Array Oper} {S : World → Prop} {i : Nat} {r : List (Nat × Value)} {a : Act} {oi : Oper} (hi : ops[i]? = some oi) (hw : Region.wanted oi (yielded ops a.tmps) = false)
    (hr : yieldsAll P ops S r (a.put oi.dst undef)) : yieldsAll P ops S ((i, undef) :: r) a := ⟨oi, hi, .inr ⟨hw, rfl⟩, hr⟩

theorem D_pre {P : Program} {ops : Array Oper} {Q : Exit → Act → World → Prop} {md : Region.Mode} {S : World → Prop} {need : Nat → Bool} {fuel : Nat} {w : World}
    (hQ : ∀ c a d u w, Q (.panic c) (Act.put a d u) w → Q (.panic c) a w) (hS : S w) :
    ∀ (pre : List (Nat × Value)) (listed : Array Bool) (a : Act), preOk md ops need (pre.map (·.1)) listed = true → yieldsAll P ops S pre a →
      wpAnyD P md ops Q S need fuel (listAll (pre.map (·.1)) listed) (putAll ops pre a) w → wpAnyD P md ops Q S need (fuel + pre.length) listed a w
  | [], _, _, _, _, h => h
  | (i, v) :: r, listed, a, hB, ⟨oi, hi, hy, hr⟩, h => by
    simp only [List.map_cons, preOk, Bool.and_eq_true] at hB
    obtain ⟨⟨⟨⟨b1, b2⟩, b3⟩, b4⟩, b5⟩ := hB
    refine D_take (fuel := fuel + r.length) (v := v) hi (by simp only [Bool.and_eq_true]; exact ⟨⟨⟨b1, b2⟩, b3⟩, b4⟩) hQ hy hS ?_
    refine D_pre hQ hS r _ _ b5 hr ?_
    simp only [List.map_cons, listAll, putAll, hi, Option.bind_some] at h
    exact h

/-- The next operation, the only one that may come up, runs to a value. -/
theorem D_val {P : Program} {ops : Array Oper} {Q : Exit → Act → World → Prop} {md : Region.Mode} {S : World → Prop} {need : Nat → Bool} {i : Nat} {o : Oper} {fuel : Nat} {listed : Array Bool} {a : Act} {w w' : World} {v : Value}
    (hr : Region.ready md ops listed = [i]) (ho : ops[i]? = some o) (hw : Region.wanted o (yielded ops a.tmps) = true)
    (hrun : (execOp a.eval o).run P w = .ok (.value v) w') (hS : need i = true → S w') (h : wpAnyD P md ops Q S need fuel (listed.setIfInBounds i true) (a.put o.dst v) w') : wpAnyD P md ops Q S need (fuel + 1) listed a w :=
  D_one hr (D_run ho hw hrun ⟨hS, h⟩)
theorem D_unit {P : Program} {ops : Array Oper} {Q : Exit → Act → World → Prop} {md : Region.Mode} {S : World → Prop} {need : Nat → Bool} {i : Nat} {o : Oper} {fuel : Nat} {listed : Array Bool} {a : Act} {w w' : World}
    (hr : Region.ready md ops listed = [i]) (ho : ops[i]? = some o) (hw : Region.wanted o (yielded ops a.tmps) = true)
    (hrun : (execOp a.eval o).run P w = .ok .skip w') (hS : need i = true → S w') (h : wpAnyD P md ops Q S need fuel (listed.setIfInBounds i true) (a.put o.dst undef) w') : wpAnyD P md ops Q S need (fuel + 1) listed a w :=
  D_one hr (D_skip ho hw hrun ⟨hS, h⟩)
theorem D_law {P : Program} {ops : Array Oper} {Q : Exit → Act → World → Prop} {md : Region.Mode} {S : World → Prop} {need : Nat → Bool} {i : Nat} {o : Oper} {fuel : Nat} {listed : Array Bool} {a : Act} {w : World}
    (hr : Region.ready md ops listed = [i]) (ho : ops[i]? = some o) (hw : Region.wanted o (yielded ops a.tmps) = true)
    (h : o.wp P a w (fun a' w' => (need i = true → S w') ∧ wpAnyD P md ops Q S need fuel (listed.setIfInBounds i true) a' w') Q) : wpAnyD P md ops Q S need (fuel + 1) listed a w :=
  D_one hr (D_wp ho hw h)

theorem Exit.then_panic {K : Act → World → Prop} {Q : Exit → Act → World → Prop} (h : ∀ c a d u w, Q (.panic c) (Act.put a d u) w → Q (.panic c) a w) :
    ∀ c a d u w, Exit.then K Q (.panic c) (Act.put a d u) w → Exit.then K Q (.panic c) a w := h

end Go.Proofs.YtfnjeojaahnlfaaDoor
