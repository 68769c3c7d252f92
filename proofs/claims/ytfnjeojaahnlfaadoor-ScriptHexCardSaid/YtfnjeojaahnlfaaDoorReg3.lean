/- A region that draws its order: batches of what reads; what writes or calls goes by the steps of plain regions. No program is in sight. -/
import Derived.Test.YtfnjeojaahnlfaaDoorReg2
namespace Go.Proofs.YtfnjeojaahnlfaaDoor
open Go.RowKit
section
variable {P : Program} {ops : Array Oper} {Q : Exit → Act → World → Prop} {n : Nat} {l : Env} {L L' : List Fa} {S : World → Prop} {need : Nat → Bool} {fuel : Nat} {listed : Array Bool} {o : Oper} {i : Nat}
theorem wpOp_of_list {K : Act → World → Prop} {a : Act} {w : World} (ho : ops[i]? = some o) (h : wpList P ops (Exit.then K Q) [o] a w) : wpOp P ops Q i K a w := by
  unfold wpOp
  rw [ho]
  exact h
/-- What stands behind an operation of such a region. -/
def DK (P : Program) (ops : Array Oper) (Q : Exit → Act → World → Prop) (S : World → Prop) (need : Nat → Bool) (fuel : Nat) (listed : Array Bool) (i : Nat) : Act → World → Prop := fun a w => (need i = true → S w) ∧ wpAnyD P .any ops Q S need fuel (listed.setIfInBounds i true) a w
theorem sa_sl (i : Nat) (ho : ops[i]? = some o) (h : SL P ops (Exit.then (DK P ops Q S need fuel listed i) Q) [o] n l L) : SA P ops Q S need fuel listed n l L i := sa_of fun w hw => by
  unfold WA
  exact fun a hs => wpOp_of_list ho ((h.to hw).get hs)
theorem sd_one (i : Nat) (hr : Region.ready .any ops listed = [i]) (h : SA P ops Q S need fuel listed n l L i) : SD P ops Q S need (fuel + 1) listed n l L := sd_of fun w hw => by
  have h1 := h.to hw
  unfold WA at h1
  unfold WD
  exact fun a hs => D_one hr (h1 a hs)
theorem sd_many (is : List Nat) (hr : Region.ready .any ops listed = is) (hne : is ≠ []) (h : ∀ i ∈ is, SA P ops Q S need fuel listed n l L i) : SD P ops Q S need (fuel + 1) listed n l L := sd_of fun w hw => by
  unfold WD
  intro a hs
  refine ⟨fun h0 => absurd (hr ▸ h0) hne, fun k hk => ?_⟩
  have h1 := (h k (hr ▸ hk)).to hw
  unfold WA at h1
  exact h1 a hs
theorem sd_three (i j k : Nat) (hr : Region.ready .any ops listed = [i, j, k]) (hi : SA P ops Q S need fuel listed n l L i) (hj : SA P ops Q S need fuel listed n l L j) (hk : SA P ops Q S need fuel listed n l L k) : SD P ops Q S need (fuel + 1) listed n l L :=
  sd_many [i, j, k] hr (by simp) (fun x hx => by
    simp only [List.mem_cons, List.not_mem_nil, or_false] at hx
    rcases hx with h | h | h <;> (subst h; assumption))
theorem sd_four (i j k m : Nat) (hr : Region.ready .any ops listed = [i, j, k, m]) (hi : SA P ops Q S need fuel listed n l L i) (hj : SA P ops Q S need fuel listed n l L j) (hk : SA P ops Q S need fuel listed n l L k) (hm : SA P ops Q S need fuel listed n l L m) : SD P ops Q S need (fuel + 1) listed n l L :=
  sd_many [i, j, k, m] hr (by simp) (fun x hx => by
    simp only [List.mem_cons, List.not_mem_nil, or_false] at hx
    rcases hx with h | h | h | h <;> (subst h; assumption))
/-- The operation is done. -/
theorem se_sd (hS : need i = true → ∀ w, Sep w L → S w) (h : SD P ops Q S need fuel (listed.setIfInBounds i true) n l L) : SE (Exit.then (DK P ops Q S need fuel listed i) Q) .normal n l L := se_of fun w hw => WE.mk fun a hs => by
  have h1 := h.to hw
  unfold WD at h1
  exact ⟨fun e => hS e w hw, h1 a hs⟩
theorem sd_new {id : Nat} {o : List Oper} (hm : P.follows .mixedOrders = true) (N : Nat) (hN : o.length = N) (h : SD P o.toArray Q (fun _ => True) (fun _ => true) N (Array.replicate N false) n l L) : SC P (.region id o.toArray true) Q n l L := sd_drawn _ _ hm N hN h

/-! Batches. -/
def GdOk (ops : Array Oper) (l : Env) : Option (Nat × Bool) → Bool → Prop
  | none, y => y = true
  | some (j, b), y => ∃ t c, (ops[j]?).bind (·.dst) = some t ∧ lk l t = some (.bool c) ∧ y = (b == c)
theorem GdOk.none : GdOk ops l none true := rfl
theorem GdOk.some {j t : Nat} {b c : Bool} (hj : (ops[j]?).bind (·.dst) = some t) (ht : lk l t = some (.bool c)) {y : Bool} (hy : (b == c) = y) : GdOk ops l (some (j, b)) y := ⟨t, c, hj, ht, hy.symm⟩
theorem GdOk.wanted {gd : Option (Nat × Bool)} {y : Bool} {dst : Option Tmp} {op : Op} {ty : TypeId} {pos : String} {after : Array Edge} {a : Act} (h : GdOk ops l gd y) (hs : Sl n l a) : Region.wanted ⟨dst, op, ty, pos, after, gd⟩ (yielded ops a.tmps) = y := by
  cases gd with
  | none =>
    cases h
    rfl
  | some p =>
    obtain ⟨j, b⟩ := p
    obtain ⟨t, c, h1, h2, h3⟩ := h
    unfold Region.wanted
    simp only [hs.yield h1 h2]
    rw [h3]
    cases b <;> cases c <;> rfl
/-- Does number j wait for number i, by itself or through others that did not come up yet? -/
def waitsFor (ops : Array Oper) (listed : Array Bool) (i : Nat) : Nat → Nat → Bool
  | 0, _ => false
  | f + 1, j => !listed.getD j true && ((ops[j]?).map fun o => o.after.any fun e => Region.binds .any e && (e.on == i || waitsFor ops listed i f e.on)).getD false
def stayOk2 (ops : Array Oper) (listed : Array Bool) (need : Nat → Bool) (i : Nat) : Bool :=
  (List.range ops.size).all fun j => j == i || listed.getD j true || need j || waitsFor ops listed i ops.size j
theorem stayOk2_spec {i : Nat} (h : stayOk2 ops listed need i = true) (j : Nat) (oj : Oper) (hj : ops[j]? = some oj) (hji : j ≠ i) (hun : listed.getD j true = false) (hR : ¬ ∃ f, waitsFor ops listed i f j = true) : need j = true := by
  unfold stayOk2 at h
  rw [List.all_eq_true] at h
  have h1 := h j (List.mem_range.2 (Array.getElem?_eq_some_iff.1 hj).1)
  simp only [Bool.or_eq_true, beq_iff_eq, hun, Bool.false_eq_true, or_false] at h1
  rcases h1 with (h1 | h1) | h1
  · exact absurd h1 hji
  · exact h1
  · exact absurd ⟨_, h1⟩ hR
theorem waitsFor_un {i j f : Nat} (h : waitsFor ops listed i f j = true) : listed.getD j true = false := by
  cases f with
  | zero => cases h
  | succ f =>
    unfold waitsFor at h
    rw [Bool.and_eq_true] at h
    simpa using h.1
theorem waitsFor_edge {i j f : Nat} {oj : Oper} (h : waitsFor ops listed i f j = true) (hj : ops[j]? = some oj) : ∃ e ∈ oj.after, Region.binds .any e = true ∧ (e.on = i ∨ ∃ f, waitsFor ops listed i f e.on = true) := by
  cases f with
  | zero => cases h
  | succ f =>
    unfold waitsFor at h
    rw [Bool.and_eq_true, hj] at h
    have h2 := h.2
    simp only [Option.map_some, Option.getD_some, Array.any_eq_true] at h2
    obtain ⟨k, hk, he⟩ := h2
    rw [Bool.and_eq_true, Bool.or_eq_true, beq_iff_eq] at he
    exact ⟨_, Array.getElem_mem hk, he.1, he.2.imp id (fun h => ⟨f, h⟩)⟩
/-- One that yields wherever Y holds; what may come before it keeps Y. -/
theorem wpAnyE_first2 {Y : World → Prop} {R : Nat → Prop} {i : Nat} {oi : Oper} {v : Value} (hi : ops[i]? = some oi) (hsel : ∀ (j : Nat) (o : Oper) cs b, ops[j]? = some o → o.op ≠ .select cs b)
    (hQ : ∀ c a w, Q (.panic c) (a.put oi.dst v) w → Q (.panic c) a w) (hYS : ∀ w w', Y w → (S w → S w') → Y w')
    (hR : ∀ j oj, R j → ops[j]? = some oj → ∃ e ∈ oj.after, Region.binds .any e = true ∧ (e.on = i ∨ R e.on)) :
    ∀ (fuel : Nat) (listed : Array Bool) (a : Act) (w : World), (∀ j oj, ops[j]? = some oj → j ≠ i → listed.getD j true = false → ¬ R j → need j = true ∨ ∀ w, Y w) → (∀ j, R j → listed.getD j true = false) →
      (∀ j oj, ops[j]? = some oj → j ≠ i → listed.getD j true = false → (∀ e ∈ oj.after, Region.binds .any e = true → e.on ≠ i) → oi.apart ops oj = true) →
      i ∈ Region.ready .any ops listed → YieldsIf P ops Y oi v a → Y w →
      wpAnyE P .any ops Q S need fuel (listed.setIfInBounds i true) (a.put oi.dst v) w → wpAnyE P .any ops Q S need (fuel + 1) listed a w := by
  intro fuel
  induction fuel with
  | zero =>
    intro listed a w _ _ _ hr hy hY H
    refine ⟨fun h => (by rw [h] at hr; cases hr), fun j hj => ?_⟩
    by_cases hji : j = i
    · subst hji; exact hy.wpOp hi hY ⟨fun _ h => h, H⟩
    · have := ready_mono hj hji
      rw [H.1] at this
      cases this
  | succ fuel ih =>
    intro listed a w hneed hRu hfree hr hy hY H
    refine ⟨fun h => (by rw [h] at hr; cases hr), fun j hj => ?_⟩
    by_cases hji : j = i
    · subst hji; exact hy.wpOp hi hY ⟨fun _ h => h, H⟩
    · have h1 := H.2 j (ready_mono hj hji)
      obtain ⟨hjun, oj, hoj, hall⟩ := mem_ready.1 hj
      have hiun : listed.getD i true = false := (mem_ready.1 hr).1
      have hlt : ∀ k, listed.getD k true = false → listed.getD k false = false := fun k h => by
        rcases Nat.lt_or_ge k listed.size with h' | h'
        · simp [h'] at h ⊢; exact h
        · simp [Array.getElem?_eq_none h']
      have hnot : ∀ e ∈ oj.after, Region.binds .any e = true → e.on ≠ i := fun e he hb heq => by
        have h1 := hall e he hb
        rw [heq, hlt i hiun] at h1
        cases h1
      have hnR : ¬ R j := fun hRj => by
        obtain ⟨e, he, hb, h2⟩ := hR j oj hRj hoj
        rcases h2 with h2 | h2
        · exact hnot e he hb h2
        · have h1 := hall e he hb
          rw [hlt _ (hRu _ h2)] at h1
          cases h1
      have hnd := hneed j oj hoj hji hjun hnR
      have h2 := wpOp_putIf hoj (hfree j oj hoj hji hjun hnot) (fun cs b => hsel i oi cs b hi) (fun cs b => hsel j oj cs b hoj) hQ hy h1
      have hlist : ∀ k, (listed.setIfInBounds j true).getD k true = false → listed.getD k true = false := fun k hun => by
        by_cases hjk : j = k
        · subst hjk; exact hjun
        · rw [getD_set_ne true hjk] at hun; exact hun
      refine wpOp_mono (fun a' w' h3 => ⟨h3.2.1, ih (listed.setIfInBounds j true) a' w' (fun k ok hk hki hun hno => hneed k ok hk hki (hlist k hun) hno) (fun k hk => ?_) (fun k ok hk hki hun hno => hfree k ok hk hki (hlist k hun) hno) (ready_mono hr (Ne.symm hji)) h3.1 (hnd.elim (fun e => hYS w w' hY (h3.2.1 e)) (fun h => h w')) ?_⟩) h2
      · rw [getD_set_ne true (fun e : j = k => hnR (e ▸ hk))]
        exact hRu k hk
      · rw [Array.setIfInBounds_comm _ _ hji]
        exact h3.2.2
/-- One that yields while S holds; what may come before it (without waiting for it, by itself or through others) keeps S. -/
theorem wpAnyD_first2 {R : Nat → Prop} {i : Nat} {oi : Oper} {v : Value} (hi : ops[i]? = some oi) (hsel : ∀ (j : Nat) (o : Oper) cs b, ops[j]? = some o → o.op ≠ .select cs b)
    (hQ : ∀ c a w, Q (.panic c) (a.put oi.dst v) w → Q (.panic c) a w)
    (hR : ∀ j oj, R j → ops[j]? = some oj → ∃ e ∈ oj.after, Region.binds .any e = true ∧ (e.on = i ∨ R e.on)) :
    ∀ (fuel : Nat) (listed : Array Bool) (a : Act) (w : World), (∀ j oj, ops[j]? = some oj → j ≠ i → listed.getD j true = false → ¬ R j → need j = true) → (∀ j, R j → listed.getD j true = false) →
      (∀ j oj, ops[j]? = some oj → j ≠ i → listed.getD j true = false → (∀ e ∈ oj.after, Region.binds .any e = true → e.on ≠ i) → oi.apart ops oj = true) →
      i ∈ Region.ready .any ops listed → YieldsIf P ops S oi v a → S w →
      wpAnyD P .any ops Q S need fuel (listed.setIfInBounds i true) (a.put oi.dst v) w → wpAnyD P .any ops Q S need (fuel + 1) listed a w := by
  intro fuel
  induction fuel with
  | zero =>
    intro listed a w _ _ _ hr hy hY H
    refine ⟨fun h => (by rw [h] at hr; cases hr), fun j hj => ?_⟩
    by_cases hji : j = i
    · subst hji; exact hy.wpOp hi hY ⟨fun _ => hY, H⟩
    · have := ready_mono hj hji
      rw [H.1] at this
      cases this
  | succ fuel ih =>
    intro listed a w hneed hRu hfree hr hy hY H
    refine ⟨fun h => (by rw [h] at hr; cases hr), fun j hj => ?_⟩
    by_cases hji : j = i
    · subst hji; exact hy.wpOp hi hY ⟨fun _ => hY, H⟩
    · have h1 := H.2 j (ready_mono hj hji)
      obtain ⟨hjun, oj, hoj, hall⟩ := mem_ready.1 hj
      have hiun : listed.getD i true = false := (mem_ready.1 hr).1
      have hlt : ∀ k, listed.getD k true = false → listed.getD k false = false := fun k h => by
        rcases Nat.lt_or_ge k listed.size with h' | h'
        · simp [h'] at h ⊢; exact h
        · simp [Array.getElem?_eq_none h']
      have hnot : ∀ e ∈ oj.after, Region.binds .any e = true → e.on ≠ i := fun e he hb heq => by
        have h1 := hall e he hb
        rw [heq, hlt i hiun] at h1
        cases h1
      have hnR : ¬ R j := fun hRj => by
        obtain ⟨e, he, hb, h2⟩ := hR j oj hRj hoj
        rcases h2 with h2 | h2
        · exact hnot e he hb h2
        · have h1 := hall e he hb
          rw [hlt _ (hRu _ h2)] at h1
          cases h1
      have hnd := hneed j oj hoj hji hjun hnR
      have h2 := wpOp_putIf hoj (hfree j oj hoj hji hjun hnot) (fun cs b => hsel i oi cs b hi) (fun cs b => hsel j oj cs b hoj) hQ hy h1
      have hlist : ∀ k, (listed.setIfInBounds j true).getD k true = false → listed.getD k true = false := fun k hun => by
        by_cases hjk : j = k
        · subst hjk; exact hjun
        · rw [getD_set_ne true hjk] at hun; exact hun
      refine wpOp_mono (fun a' w' h3 => ⟨h3.2.1, ih (listed.setIfInBounds j true) a' w' (fun k ok hk hki hun hno => hneed k ok hk hki (hlist k hun) hno) (fun k hk => ?_) (fun k ok hk hki hun hno => hfree k ok hk hki (hlist k hun) hno) (ready_mono hr (Ne.symm hji)) h3.1 (h3.2.1 hnd) ?_⟩) h2
      · rw [getD_set_ne true (fun e : j = k => hnR (e ▸ hk))]
        exact hRu k hk
      · rw [Array.setIfInBounds_comm _ _ hji]
        exact h3.2.2
theorem D_of_any : ∀ (fuel : Nat) (listed : Array Bool) (a : Act) (w : World), wpAny P .any ops Q fuel listed a w → wpAnyD P .any ops Q (fun _ => True) need fuel listed a w
  | 0, _, _, _, h => h
  | fuel + 1, _, _, _, h => ⟨h.1, fun i hi => wpOp_mono (fun a' w' h' => ⟨fun _ => trivial, D_of_any fuel _ a' w' h'⟩) (h.2 i hi)⟩
/-- All of some facts, and the rest K as a whole. -/
def S2 (K L0 : List Fa) (W : World) : Prop := Sep W K ∧ AllP W L0
theorem PuI.all2 {K : List Fa} {op : Op} {ty : TypeId} {v : Value} (h : PuI P L l op v) : Pu P (S2 K L) n l op ty v := h.pu fun _ hW _ hf => hW.2.at hf
/-- Now a batch of what reads. -/
theorem sd_batch (need : Nat → Bool) (h : SX P ops Q (In L) need fuel listed n l L) : SD P ops Q (fun _ => True) (fun _ => true) fuel listed n l L := sd_of fun w hw => by
  unfold WD
  intro a hs
  unfold SX at h
  exact D_of_any _ _ _ _ (wpAny_of_E _ _ _ _ (h w hw a hs))
section
variable {d : Tmp} {op : Op} {ty : TypeId} {pos : String} {after : Array Edge} {v : Value} {gd : Option (Nat × Bool)}
theorem sx_yes (i : Nat) (hi : ops[i]? = some ⟨some d, op, ty, pos, after, gd⟩) (hg : GdOk ops l gd true) (hB : freeOk ops listed i = true) (hN : stayOk2 ops listed need i = true) (hQ : NoP Q) (hr : Pu P S n l op ty v) (hd : Nat.blt d n = true) (hS : ∀ w, Sep w L → S w) (h : SX P ops Q S need fuel (listed.setIfInBounds i true) n ((d, v) :: l) L) : SX P ops Q S need (fuel + 1) listed n l L := by
  unfold SX at h ⊢
  intro w hw a hs
  obtain ⟨h1, h2, h3⟩ := freeOk_spec hB
  refine wpAnyE_first2 (Y := S) (R := fun j => ∃ f, waitsFor ops listed i f j = true) hi (Region.noSelect_spec h1) (fun c a w => hQ c a _ _ w) (fun w w' hY e => e hY) (fun j oj ⟨f, hf⟩ hj => waitsFor_edge hf hj) fuel listed a w (fun j oj hj hji hun hnR => .inl (stayOk2_spec hN j oj hj hji hun hnR)) (fun j ⟨f, hf⟩ => waitsFor_un hf) (Region.free_spec hi h2) (by simpa using h3) (.inl ⟨hg.wanted hs, fun W hW => ?_⟩) (hS w hw) (h w hw _ (hs.put hd v))
  unfold Pu at hr
  exact hr a _ _ _ _ W hs hW
/-- One of a region where S is held all the while. -/
theorem sd_yes (i : Nat) (hi : ops[i]? = some ⟨some d, op, ty, pos, after, gd⟩) (hg : GdOk ops l gd true) (hB : (Region.noSelect ops && Region.free .any ops listed i && (Region.ready .any ops listed).contains i && needOk .any ops need i) = true)
    (hQ : NoP Q) (hr : Pu P S n l op ty v) (hd : Nat.blt d n = true) (hS : ∀ w, Sep w L → S w) (h : SD P ops Q S need fuel (listed.setIfInBounds i true) n ((d, v) :: l) L) : SD P ops Q S need (fuel + 1) listed n l L := sd_of fun w hw => by
  have h1 := h.to hw
  unfold WD at h1 ⊢
  unfold Pu at hr
  exact fun a hs => D_take hi hB hQ (.inl ⟨hg.wanted hs, fun W hW => hr a _ _ _ _ W hs hW⟩) (hS w hw) (h1 _ (hs.put hd v))
theorem sd_yes2 (i : Nat) (hi : ops[i]? = some ⟨some d, op, ty, pos, after, gd⟩) (hg : GdOk ops l gd true) (hB : freeOk ops listed i = true) (hN : stayOk2 ops listed need i = true)
    (hQ : NoP Q) (hr : Pu P S n l op ty v) (hd : Nat.blt d n = true) (hS : ∀ w, Sep w L → S w) (h : SD P ops Q S need fuel (listed.setIfInBounds i true) n ((d, v) :: l) L) : SD P ops Q S need (fuel + 1) listed n l L := sd_of fun w hw => by
  have h1 := h.to hw
  unfold WD at h1 ⊢
  unfold Pu at hr
  intro a hs
  obtain ⟨b1, b2, b3⟩ := freeOk_spec hB
  exact wpAnyD_first2 (R := fun j => ∃ f, waitsFor ops listed i f j = true) hi (Region.noSelect_spec b1) (fun c a w => hQ c a _ _ w) (fun j oj ⟨f, hf⟩ hj => waitsFor_edge hf hj) fuel listed a w (fun j oj hj hji hun hnR => stayOk2_spec hN j oj hj hji hun hnR) (fun j ⟨f, hf⟩ => waitsFor_un hf) (Region.free_spec hi b2) (by simpa using b3) (.inl ⟨hg.wanted hs, fun W hW => hr a _ _ _ _ W hs hW⟩) (hS w hw) (h1 _ (hs.put hd v))
/-- One that is passed by. -/
theorem sd_off2 (i : Nat) (hi : ops[i]? = some ⟨some d, op, ty, pos, after, gd⟩) (hg : GdOk ops l gd false) (hB : freeOk ops listed i = true) (hN : stayOk2 ops listed need i = true)
    (hQ : NoP Q) (hd : Nat.blt d n = true) (hS : ∀ w, Sep w L → S w) (h : SD P ops Q S need fuel (listed.setIfInBounds i true) n ((d, undef) :: l) L) : SD P ops Q S need (fuel + 1) listed n l L := sd_of fun w hw => by
  have h1 := h.to hw
  unfold WD at h1 ⊢
  intro a hs
  obtain ⟨b1, b2, b3⟩ := freeOk_spec hB
  exact wpAnyD_first2 (R := fun j => ∃ f, waitsFor ops listed i f j = true) hi (Region.noSelect_spec b1) (fun c a w => hQ c a _ _ w) (fun j oj ⟨f, hf⟩ hj => waitsFor_edge hf hj) fuel listed a w (fun j oj hj hji hun hnR => stayOk2_spec hN j oj hj hji hun hnR) (fun j ⟨f, hf⟩ => waitsFor_un hf) (Region.free_spec hi b2) (by simpa using b3) (.inr ⟨hg.wanted hs, rfl⟩) (hS w hw) (h1 _ (hs.put hd undef))
theorem sx_off (i : Nat) (hi : ops[i]? = some ⟨some d, op, ty, pos, after, gd⟩) (hg : GdOk ops l gd false) (hB : freeOk ops listed i = true) (hQ : NoP Q) (hd : Nat.blt d n = true) (h : SX P ops Q S need fuel (listed.setIfInBounds i true) n ((d, undef) :: l) L) : SX P ops Q S need (fuel + 1) listed n l L := by
  unfold SX at h ⊢
  intro w hw a hs
  obtain ⟨h1, h2, h3⟩ := freeOk_spec hB
  exact wpAnyE_first2 (Y := fun _ => True) (R := fun j => ∃ f, waitsFor ops listed i f j = true) hi (Region.noSelect_spec h1) (fun c a w => hQ c a _ _ w) (fun _ _ _ _ => trivial) (fun j oj ⟨f, hf⟩ hj => waitsFor_edge hf hj) fuel listed a w (fun _ _ _ _ _ _ => .inr fun _ => trivial) (fun j ⟨f, hf⟩ => waitsFor_un hf) (Region.free_spec hi h2) (by simpa using h3) (.inr ⟨hg.wanted hs, rfl⟩) trivial (h w hw _ (hs.put hd undef))
end
end
end Go.Proofs.YtfnjeojaahnlfaaDoor
