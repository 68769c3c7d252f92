/- A region that draws its order, in two parts: what only reads is taken first, wherever it stands; then the rest. No program is in sight. -/
import Derived.Test.YtfnjeojaahnlfaaDoorSp5
namespace Go.Proofs.YtfnjeojaahnlfaaDoor
open Go.RowKit
section
variable {P : Program} {ops : Array Oper} {Q : Exit → Act → World → Prop} {md : Region.Mode} {S : World → Prop} {need : Nat → Bool}
/-- Whatever order is picked from here on; what 'need' names keeps S. -/
def wpAnyE (P : Program) (md : Region.Mode) (ops : Array Oper) (Q : Exit → Act → World → Prop) (S : World → Prop) (need : Nat → Bool) : Nat → Array Bool → Act → World → Prop
  | 0, listed, a, w => Region.ready md ops listed = [] ∧ Q .normal a w
  | fuel + 1, listed, a, w =>
    (Region.ready md ops listed = [] → Q .normal a w) ∧
    ∀ i ∈ Region.ready md ops listed, wpOp P ops Q i (fun a' w' => (need i = true → S w → S w') ∧ wpAnyE P md ops Q S need fuel (listed.setIfInBounds i true) a' w') a w
theorem wpAny_of_E : ∀ (fuel : Nat) (listed : Array Bool) (a : Act) (w : World), wpAnyE P md ops Q S need fuel listed a w → wpAny P md ops Q fuel listed a w
  | 0, _, _, _, h => h
  | fuel + 1, _, _, _, h => ⟨h.1, fun i hi => wpOp_mono (fun a' w' h' => wpAny_of_E fuel _ a' w' h'.2) (h.2 i hi)⟩
theorem E_of_any : ∀ (fuel : Nat) (listed : Array Bool) (a : Act) (w : World), (∀ j o, ops[j]? = some o → need j = true → listed.getD j true = true) → wpAny P md ops Q fuel listed a w → wpAnyE P md ops Q S need fuel listed a w
  | 0, _, _, _, _, h => h
  | fuel + 1, listed, a, w, hn, h => by
    refine ⟨h.1, fun i hi => ?_⟩
    obtain ⟨hun, oi, hoi, _⟩ := mem_ready.1 hi
    have hni : ¬ need i = true := fun e => by
      rw [hn i oi hoi e] at hun
      cases hun
    refine wpOp_mono (fun a' w' h' => ⟨fun e => absurd e hni, E_of_any fuel _ a' w' (fun j oj hj e => ?_) h'⟩) (h.2 i hi)
    by_cases hij : i = j
    · subst hij
      exact absurd e hni
    · rw [getD_set_ne true hij]
      exact hn j oj hj e
/-- One that yields wherever Y holds, Y being kept by all that may come before it. -/
theorem wpAnyE_first {Y : World → Prop} {i : Nat} {oi : Oper} {v : Value} (hi : ops[i]? = some oi) (hsel : ∀ (j : Nat) (o : Oper) cs b, ops[j]? = some o → o.op ≠ .select cs b)
    (hQ : ∀ c a w, Q (.panic c) (a.put oi.dst v) w → Q (.panic c) a w) (hYS : ∀ w w', Y w → (S w → S w') → Y w') :
    ∀ (fuel : Nat) (listed : Array Bool) (a : Act) (w : World), (∀ j oj, ops[j]? = some oj → j ≠ i → listed.getD j true = false → (∀ e ∈ oj.after, Region.binds md e = true → e.on ≠ i) → need j = true ∨ ∀ w, Y w) →
      (∀ j oj, ops[j]? = some oj → j ≠ i → listed.getD j true = false → (∀ e ∈ oj.after, Region.binds md e = true → e.on ≠ i) → oi.apart ops oj = true) →
      i ∈ Region.ready md ops listed → YieldsIf P ops Y oi v a → Y w →
      wpAnyE P md ops Q S need fuel (listed.setIfInBounds i true) (a.put oi.dst v) w → wpAnyE P md ops Q S need (fuel + 1) listed a w := by
  intro fuel
  induction fuel with
  | zero =>
    intro listed a w _ _ hr hy hY H
    refine ⟨fun h => (by rw [h] at hr; cases hr), fun j hj => ?_⟩
    by_cases hji : j = i
    · subst hji; exact hy.wpOp hi hY ⟨fun _ h => h, H⟩
    · have := ready_mono hj hji
      rw [H.1] at this
      cases this
  | succ fuel ih =>
    intro listed a w hneed hfree hr hy hY H
    refine ⟨fun h => (by rw [h] at hr; cases hr), fun j hj => ?_⟩
    by_cases hji : j = i
    · subst hji; exact hy.wpOp hi hY ⟨fun _ h => h, H⟩
    · have h1 := H.2 j (ready_mono hj hji)
      obtain ⟨hjun, oj, hoj, hall⟩ := mem_ready.1 hj
      have hnot : ∀ e ∈ oj.after, Region.binds md e = true → e.on ≠ i := fun e he hb heq => by
        have h1 := hall e he hb
        have h0 := (mem_ready.1 hr).1
        rw [heq] at h1
        rcases Nat.lt_or_ge i listed.size with h' | h'
        · simp [h'] at h0 h1; rw [h0] at h1; cases h1
        · simp [Array.getElem?_eq_none h'] at h1
      have hnd := hneed j oj hoj hji hjun hnot
      have h2 := wpOp_putIf hoj (hfree j oj hoj hji hjun hnot) (fun cs b => hsel i oi cs b hi) (fun cs b => hsel j oj cs b hoj) hQ hy h1
      have hlist : ∀ k, (listed.setIfInBounds j true).getD k true = false → listed.getD k true = false := fun k hun => by
        by_cases hjk : j = k
        · subst hjk; exact hjun
        · rw [getD_set_ne true hjk] at hun; exact hun
      refine wpOp_mono (fun a' w' h3 => ⟨h3.2.1, ih (listed.setIfInBounds j true) a' w' (fun k ok hk hki hun hno => hneed k ok hk hki (hlist k hun) hno) (fun k ok hk hki hun hno => hfree k ok hk hki (hlist k hun) hno) (ready_mono hr (Ne.symm hji)) h3.1 (hnd.elim (fun e => hYS w w' hY (h3.2.1 e)) (fun h => h w')) ?_⟩) h2
      rw [Array.setIfInBounds_comm _ _ hji]
      exact h3.2.2
end
section
variable {P : Program} {ops : Array Oper} {Q : Exit → Act → World → Prop} {n : Nat} {l : Env} {L L' : List Fa} {S : World → Prop} {need : Nat → Bool} {fuel : Nat} {listed : Array Bool} {d : Tmp} {op : Op} {ty : TypeId} {pos : String} {after : Array Edge} {v : Value}
/-- A region that draws its order: its first part. -/
def SX (P : Program) (ops : Array Oper) (Q : Exit → Act → World → Prop) (S : World → Prop) (need : Nat → Bool) (fuel : Nat) (listed : Array Bool) (n : Nat) (l : Env) (L : List Fa) : Prop := ∀ w, Sep w L → ∀ a, Sl n l a → wpAnyE P .any ops Q S need fuel listed a w
def freeOk (ops : Array Oper) (listed : Array Bool) (i : Nat) : Bool := Region.noSelect ops && Region.free .any ops listed i && (Region.ready .any ops listed).contains i
def stayOk (ops : Array Oper) (listed : Array Bool) (need : Nat → Bool) (i : Nat) : Bool :=
  (List.range ops.size).all fun j => j == i || listed.getD j true || need j || ((ops[j]?).map fun o => o.after.any fun e => Region.binds .any e && e.on == i).getD true
theorem stayOk_spec {i : Nat} (h : stayOk ops listed need i = true) (j : Nat) (oj : Oper) (hj : ops[j]? = some oj) (hji : j ≠ i) (hun : listed.getD j true = false) (hno : ∀ e ∈ oj.after, Region.binds .any e = true → e.on ≠ i) : need j = true := by
  unfold stayOk at h
  rw [List.all_eq_true] at h
  have hlt : j < ops.size := (Array.getElem?_eq_some_iff.1 hj).1
  have h1 := h j (List.mem_range.2 hlt)
  simp only [hj, Option.map_some, Option.getD_some, Bool.or_eq_true, beq_iff_eq, hun, Bool.false_eq_true, or_false] at h1
  rcases h1 with (h1 | h1) | h1
  · exact absurd h1 hji
  · exact h1
  · rw [Array.any_eq_true] at h1
    obtain ⟨k, hk, he⟩ := h1
    rw [Bool.and_eq_true, beq_iff_eq] at he
    exact absurd he.2 (hno _ (Array.getElem_mem hk) he.1)
theorem freeOk_spec {i : Nat} (h : freeOk ops listed i = true) : Region.noSelect ops = true ∧ Region.free .any ops listed i = true ∧ (Region.ready .any ops listed).contains i = true := by
  unfold freeOk at h
  simp only [Bool.and_eq_true] at h
  exact ⟨h.1.1, h.1.2, h.2⟩
theorem sx_drawn {id : Nat} {o : List Oper} (S : World → Prop) (need : Nat → Bool) (hm : P.follows .mixedOrders = true) (N : Nat) (hN : o.length = N) (h : SX P o.toArray Q S need N (Array.replicate N false) n l L) : SC P (.region id o.toArray true) Q n l L := by
  unfold SC WC
  intro w hw a hs
  refine wp_region_any hm (wpAny_of_E _ _ _ _ (S := S) (need := need) ?_)
  have h1 := h _ (hw.nil ((Fr.refl Nil w).drew)) a hs
  subst hN
  simpa using h1
/-- It looks at no memory. -/
theorem sx_pure (i : Nat) (hi : ops[i]? = some ⟨some d, op, ty, pos, after, none⟩) (hB : freeOk ops listed i = true) (hQ : NoP Q) (hr : Pu P (fun _ => True) n l op ty v) (hd : Nat.blt d n = true) (h : SX P ops Q S need fuel (listed.setIfInBounds i true) n ((d, v) :: l) L) : SX P ops Q S need (fuel + 1) listed n l L := fun w hw a hs => by
  obtain ⟨h1, h2, h3⟩ := freeOk_spec hB
  refine wpAnyE_first (Y := fun _ => True) hi (Region.noSelect_spec h1) (fun c a w => hQ c a _ _ w) (fun _ _ _ _ => trivial) fuel listed a w (fun _ _ _ _ _ _ => .inr fun _ => trivial) (Region.free_spec hi h2) (by simpa using h3) (.inl ⟨by simp [Region.wanted], fun W hW => ?_⟩) trivial (h w hw _ (hs.put hd v))
  unfold Pu at hr
  exact hr a _ _ _ _ W hs hW
/-- It reads what S keeps. -/
theorem sx_load (i : Nat) (hi : ops[i]? = some ⟨some d, op, ty, pos, after, none⟩) (hB : freeOk ops listed i = true) (hN : stayOk ops listed need i = true) (hQ : NoP Q) (hr : Pu P S n l op ty v) (hd : Nat.blt d n = true) (hS : ∀ w, Sep w L → S w) (h : SX P ops Q S need fuel (listed.setIfInBounds i true) n ((d, v) :: l) L) : SX P ops Q S need (fuel + 1) listed n l L := fun w hw a hs => by
  obtain ⟨h1, h2, h3⟩ := freeOk_spec hB
  refine wpAnyE_first (Y := S) hi (Region.noSelect_spec h1) (fun c a w => hQ c a _ _ w) (fun w w' hY e => e hY) fuel listed a w (fun j oj hj hji hun hno => .inl (stayOk_spec hN j oj hj hji hun hno)) (Region.free_spec hi h2) (by simpa using h3) (.inl ⟨by simp [Region.wanted], fun W hW => ?_⟩) (hS w hw) (h w hw _ (hs.put hd v))
  unfold Pu at hr
  exact hr a _ _ _ _ W hs hW
/-- All that was to be kept is done: the rest. -/
theorem sx_rest (hn : ((List.range ops.size).all fun j => !need j || listed.getD j true) = true) (h : SD P ops Q (fun _ => True) (fun _ => true) fuel listed n l L) : SX P ops Q S need fuel listed n l L := fun w hw a hs => by
  refine E_of_any _ _ _ _ (fun j oj hoj hj => ?_) ?_
  · have h1 := List.all_eq_true.1 hn j (List.mem_range.2 (Array.getElem?_eq_some_iff.1 hoj).1)
    simpa [hj] using h1
  · unfold SD WD at h
    exact wpAny_of_D _ _ _ _ (h w hw a hs)
theorem PuI.free {C : World → Prop} (h : PuI P [] l op v) : Pu P C n l op ty v := h.pu fun _ _ _ hf => by cases hf
attribute [irreducible] SX
end
end Go.Proofs.YtfnjeojaahnlfaaDoor
