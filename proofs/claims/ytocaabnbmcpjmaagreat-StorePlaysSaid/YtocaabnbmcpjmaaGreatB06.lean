/- Several texts of one claim, one behind the other. -/
import Derived.Test.YtocaabnbmcpjmaaGreatB05
import Derived.Test.YtocaabnbmcpjmaaGreatB01
set_option linter.unusedVariables false
set_option linter.unusedSimpArgs false
set_option maxRecDepth 100000
set_option maxHeartbeats 16000000
namespace Go.Proofs.YtocaabnbmcpjmaaGreat
variable {φ ψ : Prop}
section
open Go.RowKit
section
variable {P : Program} {ops : Array Oper} {Q : Exit → Act → World → Prop} {n : Nat} {l : Env} {L L' : List Fa} {S : World → Prop} {need : Nat → Bool} {fuel : Nat} {listed : Array Bool} {o : Oper} {i : Nat}
theorem wpOp_of_list {K : Act → World → Prop} {a : Act} {w : World} (ho : ops[i]? = some o) (h : wpList P ops (Exit.then K Q) [o] a w) : wpOp P ops Q i K a w := by
 unfold wpOp
 rw [ho]; exact h
def DK (P : Program) (ops : Array Oper) (Q : Exit → Act → World → Prop) (S : World → Prop) (need : Nat → Bool) (fuel : Nat) (listed : Array Bool) (i : Nat) : Act → World → Prop := fun a w => (need i = true → S w) ∧ wpAnyD P .any ops Q S need fuel (listed.setIfInBounds i true) a w
theorem sa_sl (i : Nat) (ho : ops[i]? = some o) (h : SL P ops (Exit.then (DK P ops Q S need fuel listed i) Q) [o] n l L) : SA P ops Q S need fuel listed n l L i := sa_of fun w hw => by
 unfold WA
 exact fun a hs => wpOp_of_list ho ((h.to hw).get hs)
theorem sd_one (i : Nat) (hr : Region.ready .any ops listed = [i]) (h : SA P ops Q S need fuel listed n l L i) : SD P ops Q S need (fuel + 1) listed n l L := sd_of fun w hw => by
 have h1 := h.to hw
 unfold WA at h1
 unfold WD
 exact fun a hs => D_one hr (h1 a hs)
theorem sd_many (is : List Nat) (hr : Region.ready .any ops listed = is) (hne : is ≠ []) (h : ∀ i ∈ is, SA P ops Q S need fuel listed n l L i) : SD P ops Q S need (fuel + 1) listed n l L := sd_of fun w hw => by
 unfold WD
 intro a hs
 refine ⟨fun h0 => absurd (hr ▸ h0) hne, fun k hk => ?_⟩
 have h1 := (h k (hr ▸ hk)).to hw
 unfold WA at h1
 exact h1 a hs
theorem sd_three (i j k : Nat) (hr : Region.ready .any ops listed = [i, j, k]) (hi : SA P ops Q S need fuel listed n l L i) (hj : SA P ops Q S need fuel listed n l L j) (hk : SA P ops Q S need fuel listed n l L k) : SD P ops Q S need (fuel + 1) listed n l L :=
 sd_many [i, j, k] hr (by simp) (fun x hx => by
   simp only [List.mem_cons, List.not_mem_nil, or_false] at hx
   rcases hx with h | h | h <;> (subst h; assumption))
theorem sd_four (i j k m : Nat) (hr : Region.ready .any ops listed = [i, j, k, m]) (hi : SA P ops Q S need fuel listed n l L i) (hj : SA P ops Q S need fuel listed n l L j) (hk : SA P ops Q S need fuel listed n l L k) (hm : SA P ops Q S need fuel listed n l L m) : SD P ops Q S need (fuel + 1) listed n l L :=
 sd_many [i, j, k, m] hr (by simp) (fun x hx => by
   simp only [List.mem_cons, List.not_mem_nil, or_false] at hx
   rcases hx with h | h | h | h <;> (subst h; assumption))
theorem se_sd (hS : need i = true → ∀ w, Sep w L → S w) (h : SD P ops Q S need fuel (listed.setIfInBounds i true) n l L) : SE (Exit.then (DK P ops Q S need fuel listed i) Q) .normal n l L := se_of fun w hw => WE.mk fun a hs => by
 have h1 := h.to hw
 unfold WD at h1
 exact ⟨fun e => hS e w hw, h1 a hs⟩
def GdOk (ops : Array Oper) (l : Env) : Option (Nat × Bool) → Bool → Prop
 | none, y => y = true
 | some (j, b), y => ∃ t c, (ops[j]?).bind (·.dst) = some t ∧ lk l t = some (.bool c) ∧ y = (b == c)
theorem GdOk.none : GdOk ops l none true := rfl
theorem GdOk.some {j t : Nat} {b c : Bool} (hj : (ops[j]?).bind (·.dst) = some t) (ht : lk l t = some (.bool c)) {y : Bool} (hy : (b == c) = y) : GdOk ops l (some (j, b)) y := ⟨t, c, hj, ht, hy.symm⟩
theorem GdOk.wanted {gd : Option (Nat × Bool)} {y : Bool} {dst : Option Tmp} {op : Op} {ty : TypeId} {pos : String} {after : Array Edge} {a : Act} (h : GdOk ops l gd y) (hs : Sl n l a) : Region.wanted ⟨dst, op, ty, pos, after, gd⟩ (yielded ops a.tmps) = y := by
 cases gd with
 | none =>
  cases h
  rfl
 | some p =>
  obtain ⟨j, b⟩ := p
  obtain ⟨t, c, h1, h2, h3⟩ := h
  unfold Region.wanted
  simp only [hs.yield h1 h2]
  rw [h3]
  cases b <;> cases c <;> rfl
def waitsFor (ops : Array Oper) (listed : Array Bool) (i : Nat) : Nat → Nat → Bool
 | 0, _ => false
 | f + 1, j => !listed.getD j true && ((ops[j]?).map fun o => o.after.any fun e => Region.binds .any e && (e.on == i || waitsFor ops listed i f e.on)).getD false
def stayOk2 (ops : Array Oper) (listed : Array Bool) (need : Nat → Bool) (i : Nat) : Bool :=
 (List.range ops.size).all fun j => j == i || listed.getD j true || need j || waitsFor ops listed i ops.size j
theorem stayOk2_spec {i : Nat} (h : stayOk2 ops listed need i = true) (j : Nat) (oj : Oper) (hj : ops[j]? = some oj) (hji : j ≠ i) (hun : listed.getD j true = false) (hR : ¬ ∃ f, waitsFor ops listed i f j = true) : need j = true := by
 unfold stayOk2 at h
 rw [List.all_eq_true] at h
 have h1 := h j (List.mem_range.2 (Array.getElem?_eq_some_iff.1 hj).1)
 simp only [Bool.or_eq_true, beq_iff_eq, hun, Bool.false_eq_true, or_false] at h1
 rcases h1 with (h1 | h1) | h1
 ·exact absurd h1 hji
 ·exact h1
 ·exact absurd ⟨_, h1⟩ hR
theorem waitsFor_un {i j f : Nat} (h : waitsFor ops listed i f j = true) : listed.getD j true = false := by
 cases f with
 | zero => cases h
 | succ f =>
  unfold waitsFor at h
  rw [Bool.and_eq_true] at h
  simpa using h.1
theorem waitsFor_edge {i j f : Nat} {oj : Oper} (h : waitsFor ops listed i f j = true) (hj : ops[j]? = some oj) : ∃ e ∈ oj.after, Region.binds .any e = true ∧ (e.on = i ∨ ∃ f, waitsFor ops listed i f e.on = true) := by
 cases f with
 | zero => cases h
 | succ f =>
  unfold waitsFor at h
  rw [Bool.and_eq_true, hj] at h
  have h2 := h.2
  simp only [Option.map_some, Option.getD_some, Array.any_eq_true] at h2
  obtain ⟨k, hk, he⟩ := h2
  rw [Bool.and_eq_true, Bool.or_eq_true, beq_iff_eq] at he
  exact ⟨_, Array.getElem_mem hk, he.1, he.2.imp id (fun h => ⟨f, h⟩)⟩
theorem wpAnyE_first2 {Y : World → Prop} {R : Nat → Prop} {i : Nat} {oi : Oper} {v : Value} (hi : ops[i]? = some oi) (hsel : ∀ (j : Nat) (o : Oper) cs b, ops[j]? = some o → o.op ≠ .select cs b)
  (hQ : ∀ c a w, Q (.panic c) (a.put oi.dst v) w → Q (.panic c) a w) (hYS : ∀ w w', Y w → (S w → S w') → Y w')
  (hR : ∀ j oj, R j → ops[j]? = some oj → ∃ e ∈ oj.after, Region.binds .any e = true ∧ (e.on = i ∨ R e.on)) :
  ∀ (fuel : Nat) (listed : Array Bool) (a : Act) (w : World), (∀ j oj, ops[j]? = some oj → j ≠ i → listed.getD j true = false → ¬ R j → need j = true ∨ ∀ w, Y w) → (∀ j, R j → listed.getD j true = false) →
   (∀ j oj, ops[j]? = some oj → j ≠ i → listed.getD j true = false → (∀ e ∈ oj.after, Region.binds .any e = true → e.on ≠ i) → oi.apart ops oj = true) →
   i ∈ Region.ready .any ops listed → YieldsIf P ops Y oi v a → Y w →
   wpAnyE P .any ops Q S need fuel (listed.setIfInBounds i true) (a.put oi.dst v) w → wpAnyE P .any ops Q S need (fuel + 1) listed a w := by
 intro fuel
 induction fuel with
 | zero =>
  intro listed a w _ _ _ hr hy hY H
  refine ⟨fun h => (by rw [h] at hr; cases hr), fun j hj => ?_⟩
  by_cases hji : j = i
  ·subst hji; exact hy.wpOp hi hY ⟨fun _ h => h, H⟩
  ·have := ready_mono hj hji
   rw [H.1] at this
   cases this
 | succ fuel ih =>
  intro listed a w hneed hRu hfree hr hy hY H
  refine ⟨fun h => (by rw [h] at hr; cases hr), fun j hj => ?_⟩
  by_cases hji : j = i
  ·subst hji; exact hy.wpOp hi hY ⟨fun _ h => h, H⟩
  ·have h1 := H.2 j (ready_mono hj hji)
   obtain ⟨hjun, oj, hoj, hall⟩ := mem_ready.1 hj
   have hiun : listed.getD i true = false := (mem_ready.1 hr).1
   have hlt : ∀ k, listed.getD k true = false → listed.getD k false = false := fun k h => by
    rcases Nat.lt_or_ge k listed.size with h' | h'
    ·simp [h'] at h ⊢; exact h
    ·simp [Array.getElem?_eq_none h']
   have hnot : ∀ e ∈ oj.after, Region.binds .any e = true → e.on ≠ i := fun e he hb heq => by
    have h1 := hall e he hb
    rw [heq, hlt i hiun] at h1
    cases h1
   have hnR : ¬ R j := fun hRj => by
    obtain ⟨e, he, hb, h2⟩ := hR j oj hRj hoj
    rcases h2 with h2 | h2
    ·exact hnot e he hb h2
    ·have h1 := hall e he hb
     rw [hlt _ (hRu _ h2)] at h1
     cases h1
   have hnd := hneed j oj hoj hji hjun hnR
   have h2 := wpOp_putIf hoj (hfree j oj hoj hji hjun hnot) (fun cs b => hsel i oi cs b hi) (fun cs b => hsel j oj cs b hoj) hQ hy h1
   have hlist : ∀ k, (listed.setIfInBounds j true).getD k true = false → listed.getD k true = false := fun k hun => by
    by_cases hjk : j = k
    ·subst hjk; exact hjun
    ·rw [getD_set_ne true hjk] at hun; exact hun
   refine wpOp_mono (fun a' w' h3 => ⟨h3.2.1, ih (listed.setIfInBounds j true) a' w' (fun k ok hk hki hun hno => hneed k ok hk hki (hlist k hun) hno) (fun k hk => ?_) (fun k ok hk hki hun hno => hfree k ok hk hki (hlist k hun) hno) (ready_mono hr (Ne.symm hji)) h3.1 (hnd.elim (fun e => hYS w w' hY (h3.2.1 e)) (fun h => h w')) ?_⟩) h2
   ·rw [getD_set_ne true (fun e : j = k => hnR (e ▸ hk))]; exact hRu k hk
   ·rw [Array.setIfInBounds_comm _ _ hji]; exact h3.2.2
theorem wpAnyD_first2 {R : Nat → Prop} {i : Nat} {oi : Oper} {v : Value} (hi : ops[i]? = some oi) (hsel : ∀ (j : Nat) (o : Oper) cs b, ops[j]? = some o → o.op ≠ .select cs b)
  (hQ : ∀ c a w, Q (.panic c) (a.put oi.dst v) w → Q (.panic c) a w)
  (hR : ∀ j oj, R j → ops[j]? = some oj → ∃ e ∈ oj.after, Region.binds .any e = true ∧ (e.on = i ∨ R e.on)) :
  ∀ (fuel : Nat) (listed : Array Bool) (a : Act) (w : World), (∀ j oj, ops[j]? = some oj → j ≠ i → listed.getD j true = false → ¬ R j → need j = true) → (∀ j, R j → listed.getD j true = false) →
   (∀ j oj, ops[j]? = some oj → j ≠ i → listed.getD j true = false → (∀ e ∈ oj.after, Region.binds .any e = true → e.on ≠ i) → oi.apart ops oj = true) →
   i ∈ Region.ready .any ops listed → YieldsIf P ops S oi v a → S w →
   wpAnyD P .any ops Q S need fuel (listed.setIfInBounds i true) (a.put oi.dst v) w → wpAnyD P .any ops Q S need (fuel + 1) listed a w := by
 intro fuel
 induction fuel with
 | zero =>
  intro listed a w _ _ _ hr hy hY H
  refine ⟨fun h => (by rw [h] at hr; cases hr), fun j hj => ?_⟩
  by_cases hji : j = i
  ·subst hji; exact hy.wpOp hi hY ⟨fun _ => hY, H⟩
  ·have := ready_mono hj hji
   rw [H.1] at this
   cases this
 | succ fuel ih =>
  intro listed a w hneed hRu hfree hr hy hY H
  refine ⟨fun h => (by rw [h] at hr; cases hr), fun j hj => ?_⟩
  by_cases hji : j = i
  ·subst hji; exact hy.wpOp hi hY ⟨fun _ => hY, H⟩
  ·have h1 := H.2 j (ready_mono hj hji)
   obtain ⟨hjun, oj, hoj, hall⟩ := mem_ready.1 hj
   have hiun : listed.getD i true = false := (mem_ready.1 hr).1
   have hlt : ∀ k, listed.getD k true = false → listed.getD k false = false := fun k h => by
    rcases Nat.lt_or_ge k listed.size with h' | h'
    ·simp [h'] at h ⊢; exact h
    ·simp [Array.getElem?_eq_none h']
   have hnot : ∀ e ∈ oj.after, Region.binds .any e = true → e.on ≠ i := fun e he hb heq => by
    have h1 := hall e he hb
    rw [heq, hlt i hiun] at h1
    cases h1
   have hnR : ¬ R j := fun hRj => by
    obtain ⟨e, he, hb, h2⟩ := hR j oj hRj hoj
    rcases h2 with h2 | h2
    ·exact hnot e he hb h2
    ·have h1 := hall e he hb
     rw [hlt _ (hRu _ h2)] at h1
     cases h1
   have hnd := hneed j oj hoj hji hjun hnR
   have h2 := wpOp_putIf hoj (hfree j oj hoj hji hjun hnot) (fun cs b => hsel i oi cs b hi) (fun cs b => hsel j oj cs b hoj) hQ hy h1
   have hlist : ∀ k, (listed.setIfInBounds j true).getD k true = false → listed.getD k true = false := fun k hun => by
    by_cases hjk : j = k
    ·subst hjk; exact hjun
    ·rw [getD_set_ne true hjk] at hun; exact hun
   refine wpOp_mono (fun a' w' h3 => ⟨h3.2.1, ih (listed.setIfInBounds j true) a' w' (fun k ok hk hki hun hno => hneed k ok hk hki (hlist k hun) hno) (fun k hk => ?_) (fun k ok hk hki hun hno => hfree k ok hk hki (hlist k hun) hno) (ready_mono hr (Ne.symm hji)) h3.1 (h3.2.1 hnd) ?_⟩) h2
   ·rw [getD_set_ne true (fun e : j = k => hnR (e ▸ hk))]; exact hRu k hk
   ·rw [Array.setIfInBounds_comm _ _ hji]; exact h3.2.2
theorem D_of_any : ∀ (fuel : Nat) (listed : Array Bool) (a : Act) (w : World), wpAny P .any ops Q fuel listed a w → wpAnyD P .any ops Q (fun _ => True) need fuel listed a w
 | 0, _, _, _, h => h
 | fuel + 1, _, _, _, h => ⟨h.1, fun i hi => wpOp_mono (fun a' w' h' => ⟨fun _ => trivial, D_of_any fuel _ a' w' h'⟩) (h.2 i hi)⟩
def S2 (K L0 : List Fa) (W : World) : Prop := Sep W K ∧ AllP W L0
theorem PuI.all2 {K : List Fa} {op : Op} {ty : TypeId} {v : Value} (h : PuI P L l op v) : Pu P (S2 K L) n l op ty v := h.pu fun _ hW _ hf => hW.2.at hf
theorem sd_batch (need : Nat → Bool) (h : SX P ops Q (In L) need fuel listed n l L) : SD P ops Q (fun _ => True) (fun _ => true) fuel listed n l L := sd_of fun w hw => by
 unfold WD
 intro a hs
 unfold SX at h
 exact D_of_any _ _ _ _ (wpAny_of_E _ _ _ _ (h w hw a hs))
section
variable {d : Tmp} {op : Op} {ty : TypeId} {pos : String} {after : Array Edge} {v : Value} {gd : Option (Nat × Bool)}
theorem sx_yes (i : Nat) (hi : ops[i]? = some ⟨some d, op, ty, pos, after, gd⟩) (hg : GdOk ops l gd true) (hB : freeOk ops listed i = true) (hN : stayOk2 ops listed need i = true) (hQ : NoP Q) (hr : Pu P S n l op ty v) (hd : Nat.blt d n = true) (hS : ∀ w, Sep w L → S w) (h : SX P ops Q S need fuel (listed.setIfInBounds i true) n ((d, v) :: l) L) : SX P ops Q S need (fuel + 1) listed n l L := by
 unfold SX at h ⊢
 intro w hw a hs
 obtain ⟨h1, h2, h3⟩ := freeOk_spec hB
 refine wpAnyE_first2 (Y := S) (R := fun j => ∃ f, waitsFor ops listed i f j = true) hi (Region.noSelect_spec h1) (fun c a w => hQ c a _ _ w) (fun w w' hY e => e hY) (fun j oj ⟨f, hf⟩ hj => waitsFor_edge hf hj) fuel listed a w (fun j oj hj hji hun hnR => .inl (stayOk2_spec hN j oj hj hji hun hnR)) (fun j ⟨f, hf⟩ => waitsFor_un hf) (Region.free_spec hi h2) (by simpa using h3) (.inl ⟨hg.wanted hs, fun W hW => ?_⟩) (hS w hw) (h w hw _ (hs.put hd v))
 unfold Pu at hr
 exact hr a _ _ _ _ W hs hW
theorem sd_yes2 (i : Nat) (hi : ops[i]? = some ⟨some d, op, ty, pos, after, gd⟩) (hg : GdOk ops l gd true) (hB : freeOk ops listed i = true) (hN : stayOk2 ops listed need i = true)
  (hQ : NoP Q) (hr : Pu P S n l op ty v) (hd : Nat.blt d n = true) (hS : ∀ w, Sep w L → S w) (h : SD P ops Q S need fuel (listed.setIfInBounds i true) n ((d, v) :: l) L) : SD P ops Q S need (fuel + 1) listed n l L := sd_of fun w hw => by
 have h1 := h.to hw
 unfold WD at h1 ⊢
 unfold Pu at hr
 intro a hs
 obtain ⟨b1, b2, b3⟩ := freeOk_spec hB
 exact wpAnyD_first2 (R := fun j => ∃ f, waitsFor ops listed i f j = true) hi (Region.noSelect_spec b1) (fun c a w => hQ c a _ _ w) (fun j oj ⟨f, hf⟩ hj => waitsFor_edge hf hj) fuel listed a w (fun j oj hj hji hun hnR => stayOk2_spec hN j oj hj hji hun hnR) (fun j ⟨f, hf⟩ => waitsFor_un hf) (Region.free_spec hi b2) (by simpa using b3) (.inl ⟨hg.wanted hs, fun W hW => hr a _ _ _ _ W hs hW⟩) (hS w hw) (h1 _ (hs.put hd v))
theorem sd_off2 (i : Nat) (hi : ops[i]? = some ⟨some d, op, ty, pos, after, gd⟩) (hg : GdOk ops l gd false) (hB : freeOk ops listed i = true) (hN : stayOk2 ops listed need i = true)
  (hQ : NoP Q) (hd : Nat.blt d n = true) (hS : ∀ w, Sep w L → S w) (h : SD P ops Q S need fuel (listed.setIfInBounds i true) n ((d, undef) :: l) L) : SD P ops Q S need (fuel + 1) listed n l L := sd_of fun w hw => by
 have h1 := h.to hw
 unfold WD at h1 ⊢
 intro a hs
 obtain ⟨b1, b2, b3⟩ := freeOk_spec hB
 exact wpAnyD_first2 (R := fun j => ∃ f, waitsFor ops listed i f j = true) hi (Region.noSelect_spec b1) (fun c a w => hQ c a _ _ w) (fun j oj ⟨f, hf⟩ hj => waitsFor_edge hf hj) fuel listed a w (fun j oj hj hji hun hnR => stayOk2_spec hN j oj hj hji hun hnR) (fun j ⟨f, hf⟩ => waitsFor_un hf) (Region.free_spec hi b2) (by simpa using b3) (.inr ⟨hg.wanted hs, rfl⟩) (hS w hw) (h1 _ (hs.put hd undef))
end
end
theorem Pick.foot {f : Fa} {L L' : List Fa} (h : Pick f L L') (k : Nat) : foot L k ↔ foot (f :: L') k := by
 constructor
 ·rintro ⟨g, hg, hk⟩
  refine ⟨g, ?_, hk⟩
  rcases (h.mem g).1 hg with e | e
  ·exact e ▸ List.mem_cons_self ..
  ·exact List.mem_cons_of_mem _ e
 ·rintro ⟨g, hg, hk⟩
  refine ⟨g, (h.mem g).2 ?_, hk⟩
  rcases List.mem_cons.1 hg with e | e
  ·exact .inl e
  ·exact .inr e
theorem Pick.back {f : Fa} {L L' : List Fa} (h : Pick f L L') : Ent_ (f :: L') L := by
 induction h with
 | here => exact fun w hw => hw
 | there hp ih => exact fun w hw => Ent_.tail ih (fun k hk => (hp.foot k).1 hk) w (hw.sub (.cons (.there .here) (.cons .here .refl)))
theorem Pick.out {f : Fa} {L L' : List Fa} (h : Pick f L L') : Ent_ L (f :: L') := fun _ hw => hw.pick h
theorem pick_mid {f : Fa} : ∀ (A : List Fa) {B : List Fa}, Pick f (A ++ f :: B) (A ++ B)
 | [], _ => .here
 | _ :: A, _ => .there (pick_mid A)
theorem bytes_at {xs : List Int} {k : Nat} (h : k < xs.length) : nth (bytes xs) k = some (.int .u8 xs[k]) := by
 rw [nth_eq]
 simp [bytes, h]
theorem IsBytes.set {xs : List Int} (h : IsBytes xs) (k : Nat) {v : Int} (h0 : 0 ≤ v) (h1 : v < 256) : IsBytes (xs.set k v) := fun x hx => by
 rcases List.mem_or_eq_of_mem_set hx with e | e
 ·exact h x e
 ·subst e; exact ⟨h0, h1⟩
section
variable {P : Program} {ops : Array Oper} {Q : Exit → Act → World → Prop} {n : Nat} {l : Env} {rest : List Oper} {ty : TypeId} {pos : String} {after : Array Edge} {v : Value} {op : Op} {w w' : World}
theorem wl_run0 (hr : Ru P n l op ty w v w') (h : WL P ops Q rest n l w') : WL P ops Q (⟨none, op, ty, pos, after, none⟩ :: rest) n l w := WL.mk fun a hs => by
 unfold Ru at hr
 refine wpList_plain rfl fun K hK => ?_
 unfold Oper.wp
 rw [hr a _ _ _ _ hs]; exact hK _ _ (h.get hs)
end
theorem at_ (h : φ := by (repeat (first | exact At.here | assumption | refine At.there ?_)); first | done | fail) : φ := h
theorem pick_ (h : φ := by (repeat (first | exact Pick.here | apply Pick.there)); first | done | fail) : φ := h
theorem sub_ (h : φ := by (repeat (first | exact Sub.refl | exact Sub.nil | (apply Sub.cons; (repeat (first | exact Pick.here | apply Pick.there)); show Sub _ _) | apply Sub.skip)); first | done | fail) : φ := h
theorem has_ (h : φ := by (repeat (first | exact has_nil | refine has_cons rfl ?_)); first | done | fail) : φ := h
theorem nop_ (h : φ := by repeat (first | assumption | exact nop_body | refine nop_then ?_ | refine nop_block ?_)) : φ := h
inductive AtAll (L : List Fa) : List Fa → Prop
 | nil : AtAll L []
 | cons {f : Fa} {r : List Fa} (h : At f L) (hr : AtAll L r) : AtAll L (f :: r)
theorem AtAll.all {w : World} {L r : List Fa} (hw : Sep w L) (h : AtAll L r) : AllP w r := by
 induction h with
 | nil => exact AllP.nil
 | cons h _ ih => exact AllP.cons (hw.at h) ih
theorem all_ {w : World} {L r : List Fa} (hw : Sep w L) (h : AtAll L r := by (repeat (first | exact AtAll.nil | refine AtAll.cons at_ ?_)); first | done | fail) : AllP w r := h.all hw
theorem gd_ (h : φ := by first | exact GdOk.none | exact GdOk.some rfl rfl rfl) : φ := h
structure Hide (p : Prop) : Prop where
 out : p
theorem so_ (k : ψ) (h : Hide ψ → φ := by (intro k; (first | refine sc_seq ?_ | refine sc_region ?_ | refine sl_nil ?_ | refine se_seq ?_ | refine sc_cond rfl (by constructor) ?_ | refine sc_skip ?_ | refine sc_block ?_ | refine se_blk (by first | exact .n | exact .h | exact .m rfl | exact .r | exact .p) ?_ | refine sc_exit ?_ | refine se_pass (by constructor) ?_ | refine sc_ret ?_); exact k.out)) : φ := h ⟨k⟩
theorem nth_ (h : φ := by first | rfl | exact nthx_) : φ := h
theorem mid_ (h : φ := by first | exact midx_ | exact Mid.all | exact Mid.head) : φ := h
theorem sz_ (h : φ := by first | rfl | exact szx_) : φ := h
theorem one_ (h : φ := by first | assumption | exact onex_ | (simp only [List.mem_cons, List.not_mem_nil, or_false, forall_eq_or_imp, forall_eq]; decide) | exact one_bytes _ | (intro v hv; (repeat (rcases List.mem_cons.1 hv with rfl | hv; rfl)); cases hv)) : φ := h
theorem set_ (h : φ := by first | exact setx_ | ((repeat (first | exact SetAt.here | apply SetAt.there)); first | done | fail)) : φ := h
theorem cl_ (h : φ := by first | rfl | exact .t | exact .f | exact .t (by omega) | exact .f (by omega) | exact .u | exact .i (by (first | exact .t (by omega) | exact .f (by omega) | exact .u | exact .i (by omega) | exact .v (by omega) | exact .b (by omega) | exact .w | rfl | omega)) | exact .v (by omega) | exact .b (by omega) | exact .q (by omega) | exact .w | exact .b at_ rfl nth_ | exact .w at_ rfl rfl sz_ | exact .s at_ mid_ rfl rfl sz_ | exact .z rfl rfl ⟨by kernel_rfl⟩ | exact .b rfl rfl ⟨by kernel_rfl⟩ | exact .a rfl rfl ⟨by kernel_rfl⟩ | exact .o rfl | exact .s | exact .n | exact .p rfl | exact .q rfl | exact .c rfl | exact .d rfl | exact .n rfl rfl (by omega) | exact .a rfl rfl (by omega) | exact .p rfl rfl (by omega) (by omega) | exact .y rfl rfl (by omega) (by omega) | exact .o at_ (by omega) rfl nth_ | exact .m at_ (by omega) mid_ rfl rfl sz_ | exact .mlen at_ rfl | exact .t at_ rfl rfl (by first | exact True.intro | rfl) (by assumption) | exact .f at_ rfl rfl (by first | exact True.intro | rfl) (by assumption) rfl | exact .t1 at_ rfl rfl (by first | exact True.intro | rfl) (by assumption) | exact .f1 at_ rfl rfl (by first | exact True.intro | rfl) (by assumption) rfl | exact .tk at_ rfl (by assumption) (by assumption) | exact .fk at_ rfl (by assumption) (by assumption) rfl | exact .tk1 at_ rfl (by assumption) (by assumption) | exact .fk1 at_ rfl (by assumption) (by assumption) rfl | exact .r rfl rfl (by omega) (by omega) nth_ rfl | exact .s rfl (by omega) (by assumption) | exact at_ | assumption | exact .r rfl rfl | exact .h rfl rfl rfl (by omega) | exact .l rfl rfl rfl (by omega) (by omega) | exact .g rfl rfl rfl rfl (by omega) (by omega) | exact .h rfl rfl (toN_ (by omega)) (by omega) | exact .l rfl rfl (toN_ (by omega)) (by omega) (by omega) | exact .g rfl rfl (toN_ (by omega)) (toN_ (by omega)) (by omega) (by omega) | exact .o (by decide) | exact .f (by decide) | exact .n (by omega) (by first | decide | (show _ ≤ ((64 : Nat) : Int); omega)) | (constructor; (repeat (first | exact .t (by omega) | exact .f (by omega) | exact .u | exact .i (by omega) | exact .v (by omega) | exact .b (by omega) | exact .w | rfl | omega)); first | done | fail) | omega | (show _ ≤ ((64 : Nat) : Int); omega)) : φ := h
theorem pv_ (h : φ := by constructor; (repeat exact cl_); first | done | fail) : φ := h
theorem su_ (k : ψ) (h : Hide ψ → φ := by (intro k; (first | refine sl_pu (PuI.sep (by exact pv_)) rfl ?_ | refine sl_yes rfl rfl ?_ | refine sl_no rfl rfl rfl ?_ | refine sl_off rfl rfl rfl ?_ | refine sux_ ?_); exact k.out)) : φ := h ⟨k⟩
theorem rq_ (k : ψ) (h : Hide ψ → φ := by (intro k; (first | refine wq_pu (PuI.sep (by exact pv_)) rfl ?_ | refine wq_yes rfl rfl ?_ | refine wq_no rfl rfl rfl ?_ | refine wq_off rfl rfl rfl ?_ | refine rqx_ ?_); exact k.out)) : φ := h ⟨k⟩
theorem sto_ (k : ψ) (h : Hide ψ → φ := by (intro k; (first | refine sl_store rfl pick_ rfl rfl (by kernel_rfl) set_ ?_ | refine sl_store_whole rfl pick_ rfl sz_ sz_ one_ ?_); exact k.out)) : φ := h ⟨k⟩
theorem go_ (k : ψ) (h : Hide ψ → φ := by (intro k; (repeat (first | refine su_ ?_ | refine so_ ?_ | refine sto_ ?_)); exact k.out)) : φ := h ⟨k⟩
theorem puv_ (h : φ := by (first | exact pu_move rfl | exact pu_assign rfl | exact pu_nilCheck rfl | exact pu_extract rfl rfl | exact pu_fieldAddr_0 rfl rfl rfl (by kernel_rfl) | exact pu_fieldAddr_b rfl rfl rfl (by kernel_rfl) | exact pu_fieldAddr rfl rfl rfl (by kernel_rfl) | exact pu_makeFunc rfl | exact pu_len rfl rfl | exact pu_cap rfl rfl | exact pu_slice_a rfl rfl rfl (by omega) | exact pu_slice_arr rfl rfl rfl | exact pu_slice_hn rfl rfl rfl rfl rfl (by omega) | exact pu_slice_ln rfl rfl rfl rfl rfl (by omega) (by omega) | exact pu_slice_lhn rfl rfl rfl rfl rfl rfl rfl (by omega) (by omega) | exact pu_slice_h rfl rfl rfl rfl (by omega) (by omega) | exact pu_slice_l rfl rfl rfl rfl (by omega) (by omega) (by omega) | exact pu_indexAddr_n rfl rfl rfl rfl (by omega) | exact pu_indexAddr_a rfl rfl rfl rfl (by omega) | exact pu_indexAddr rfl rfl rfl rfl (by omega) (by omega) | exact pu_lss_t rfl rfl (by omega) | exact pu_lss_f rfl rfl (by omega) | exact pu_lss rfl rfl | exact pu_gtr_t rfl rfl (by omega) | exact pu_gtr_f rfl rfl (by omega) | exact pu_gtr rfl rfl | exact pu_leq_t rfl rfl (by omega) | exact pu_leq_f rfl rfl (by omega) | exact pu_leq rfl rfl | exact pu_geq_t rfl rfl (by omega) | exact pu_geq_f rfl rfl (by omega) | exact pu_geq rfl rfl | exact pu_eql_t rfl rfl (by omega) | exact pu_eql_f rfl rfl (by omega) | exact pu_eql rfl rfl | exact pu_ptr_some_eql rfl rfl rfl | exact pu_ptr_none_eql rfl rfl rfl | exact pu_slice_some_eql rfl rfl rfl | exact pu_slice_none_eql rfl rfl rfl | exact pu_bool_eql rfl rfl rfl | exact pu_str_eql_same rfl rfl | exact pu_str_eql rfl rfl | exact pu_neq_t rfl rfl (by omega) | exact pu_neq_f rfl rfl (by omega) | exact pu_neq rfl rfl | exact pu_ptr_some_neq rfl rfl rfl | exact pu_ptr_none_neq rfl rfl rfl | exact pu_bool_neq rfl rfl rfl | exact pu_str_neq_same rfl rfl | exact pu_str_neq rfl rfl | exact pu_add_i rfl rfl (by omega) | exact pu_add_u rfl rfl (by omega) | exact pu_add_w rfl rfl | exact pu_sub_i rfl rfl (by omega) | exact pu_sub_u rfl rfl (by omega) | exact pu_sub_w rfl rfl | exact pu_mul_i rfl rfl (by omega) | exact pu_mul_u rfl rfl (by omega) | exact pu_mul_w rfl rfl | exact pu_rem_0 rfl rfl (by omega) (by omega) | exact pu_quo_i rfl rfl (by omega) (by omega) (by omega) | exact pu_quo_u rfl rfl (by omega) (by omega) (by omega) | exact pu_quo_0 rfl rfl (by omega) (by omega) | exact pu_or rfl rfl | exact pu_and rfl rfl | exact pu_xor rfl rfl | exact pu_shl rfl rfl (by omega) (by show _ ≤ ((64 : Nat) : Int); omega) | exact pu_shr_1 rfl rfl (by decide) | exact pu_shr_4 rfl rfl (by decide) | exact pu_shr rfl rfl (by omega) (by show _ ≤ ((64 : Nat) : Int); omega) | exact pu_conv_i rfl rfl rfl (by omega) | exact pu_conv_u rfl rfl rfl (by omega) | exact pu_conv_8 rfl rfl rfl (by omega) | exact pu_conv rfl rfl rfl)) : φ := h
section
variable {P : Program} {ops : Array Oper} {Q : Exit → Act → World → Prop} {n : Nat} {l : Env} {L L' : List Fa} {S : World → Prop} {need : Nat → Bool} {fuel : Nat} {listed : Array Bool} {o o' : Oper} {d : Tmp} {op : Op} {ty : TypeId} {pos : String} {after : Array Edge} {gd : Option (Nat × Bool)} {v : Value}
theorem wy_ (i : Nat) (h : SD P ops Q S need fuel (listed.setIfInBounds i true) n ((d, v) :: l) L) (hi : ops[i]? = some ⟨some d, op, ty, pos, after, gd⟩ := by exact rfl) (hg : GdOk ops l gd true := by exact gd_) (hB : freeOk ops listed i = true := by kernel_rfl) (hN : stayOk2 ops listed need i = true := by kernel_rfl) (hQ : NoP Q := by exact nop_) (hr : Pu P S n l op ty v := by exact PuI.all (by exact pv_)) (hd : Nat.blt d n = true := by exact rfl) (hS : ∀ w, Sep w L → S w := by exact fun w hw => all_ hw) : SD P ops Q S need (fuel + 1) listed n l L := sd_yes2 i hi hg hB hN hQ hr hd hS h
theorem wz_ {K : List Fa} {R : List Fa} (i : Nat) (h : SD P ops Q (S2 K R) need fuel (listed.setIfInBounds i true) n ((d, v) :: l) L) (hi : ops[i]? = some ⟨some d, op, ty, pos, after, gd⟩ := by exact rfl) (hg : GdOk ops l gd true := by exact gd_) (hB : freeOk ops listed i = true := by kernel_rfl) (hN : stayOk2 ops listed need i = true := by kernel_rfl) (hQ : NoP Q := by exact nop_) (hr : Pu P (S2 K R) n l op ty v := by exact PuI.all2 (by exact pv_)) (hd : Nat.blt d n = true := by exact rfl) (hs : Sub L K := by exact sub_) (hS : ∀ w, Sep w L → AllP w R := by exact fun w hw => all_ hw) : SD P ops Q (S2 K R) need (fuel + 1) listed n l L := sd_yes2 i hi hg hB hN hQ hr hd (fun w hw => ⟨hw.sub hs, hS w hw⟩) h
theorem wo_ (i : Nat) (h : SD P ops Q S need fuel (listed.setIfInBounds i true) n ((d, undef) :: l) L) (hi : ops[i]? = some ⟨some d, op, ty, pos, after, gd⟩ := by exact rfl) (hg : GdOk ops l gd false := by exact gd_) (hB : freeOk ops listed i = true := by kernel_rfl) (hN : stayOk2 ops listed need i = true := by kernel_rfl) (hQ : NoP Q := by exact nop_) (hd : Nat.blt d n = true := by exact rfl) (hS : ∀ w, Sep w L → S w := by exact fun w hw => all_ hw) : SD P ops Q S need (fuel + 1) listed n l L := sd_off2 i hi hg hB hN hQ hd hS h
theorem wt_ (i : Nat) (h : SD P ops Q S need fuel (listed.setIfInBounds i true) n ((d, v) :: l) L) (hi : ops[i]? = some ⟨some d, op, ty, pos, after, none⟩ := by exact rfl) (hB : (Region.noSelect ops && Region.free .any ops listed i && (Region.ready .any ops listed).contains i && needOk .any ops need i) = true := by kernel_rfl) (hQ : NoP Q := by exact nop_) (hr : Pu P S n l op ty v := by exact puv_) (hd : Nat.blt d n = true := by exact rfl) (hS : ∀ w, Sep w L → S w := by exact fun _ _ => trivial) : SD P ops Q S need (fuel + 1) listed n l L := sd_take i hi hB hQ hr hd hS h
theorem wa_ (i : Nat) (h : SD P ops Q S need fuel (listed.setIfInBounds i true) n ((d, v) :: l) L) (hi : ops[i]? = some ⟨some d, op, ty, pos, after, none⟩ := by exact rfl) (hB : (Region.noSelect ops && Region.free .any ops listed i && (Region.ready .any ops listed).contains i && needOk .any ops need i) = true := by kernel_rfl) (hQ : NoP Q := by exact nop_) (hr : Pu P S n l op ty v := by exact PuI.all (by exact pv_)) (hd : Nat.blt d n = true := by exact rfl) (hS : ∀ w, Sep w L → S w := by exact fun w hw => all_ hw) : SD P ops Q S need (fuel + 1) listed n l L := sd_take i hi hB hQ hr hd hS h
theorem wn_ {i : Nat} (h : SD P ops Q S need fuel (listed.setIfInBounds i true) n l L) (hS : ∀ w, Sep w L → S w := by exact fun w hw => all_ hw) : SL P ops (Exit.then (DK P ops Q S need fuel listed i) Q) [] n l L := sl_nil (se_sd (fun _ w hw => hS w hw) h)
theorem wm_ {K R : List Fa} {i : Nat} (h : SD P ops Q (S2 K R) need fuel (listed.setIfInBounds i true) n l L) (hs : Sub L K := by exact sub_) (hS : ∀ w, Sep w L → AllP w R := by exact fun w hw => all_ hw) : SL P ops (Exit.then (DK P ops Q (S2 K R) need fuel listed i) Q) [] n l L := sl_nil (se_sd (fun _ w hw => ⟨hw.sub hs, hS w hw⟩) h)
theorem w1_ (i : Nat) (h : SL P ops (Exit.then (DK P ops Q S need fuel listed i) Q) [o] n l L) (hr : Region.ready .any ops listed = [i] := by kernel_rfl) (ho : ops[i]? = some o := by exact rfl) : SD P ops Q S need (fuel + 1) listed n l L := sd_one i hr (sa_sl i ho h)
theorem w2_ (i j : Nat) (h : SL P ops (Exit.then (DK P ops Q S need fuel listed i) Q) [o] n l L) (h' : SL P ops (Exit.then (DK P ops Q S need fuel listed j) Q) [o'] n l L) (hr : Region.ready .any ops listed = [i, j] := by kernel_rfl) (ho : ops[i]? = some o := by exact rfl) (ho' : ops[j]? = some o' := by exact rfl) : SD P ops Q S need (fuel + 1) listed n l L := sd_two i j hr (sa_sl i ho h) (sa_sl j ho' h')
theorem w3_ {o3 : Oper} (i j k : Nat) (h : SL P ops (Exit.then (DK P ops Q S need fuel listed i) Q) [o] n l L) (h' : SL P ops (Exit.then (DK P ops Q S need fuel listed j) Q) [o'] n l L) (h3 : SL P ops (Exit.then (DK P ops Q S need fuel listed k) Q) [o3] n l L) (hr : Region.ready .any ops listed = [i, j, k] := by kernel_rfl) (ho : ops[i]? = some o := by exact rfl) (ho' : ops[j]? = some o' := by exact rfl) (ho3 : ops[k]? = some o3 := by exact rfl) : SD P ops Q S need (fuel + 1) listed n l L := sd_three i j k hr (sa_sl i ho h) (sa_sl j ho' h') (sa_sl k ho3 h3)
theorem w4_ {o3 o4 : Oper} (i j k m : Nat) (h : SL P ops (Exit.then (DK P ops Q S need fuel listed i) Q) [o] n l L) (h' : SL P ops (Exit.then (DK P ops Q S need fuel listed j) Q) [o'] n l L) (h3 : SL P ops (Exit.then (DK P ops Q S need fuel listed k) Q) [o3] n l L) (h4 : SL P ops (Exit.then (DK P ops Q S need fuel listed m) Q) [o4] n l L) (hr : Region.ready .any ops listed = [i, j, k, m] := by kernel_rfl) (ho : ops[i]? = some o := by exact rfl) (ho' : ops[j]? = some o' := by exact rfl) (ho3 : ops[k]? = some o3 := by exact rfl) (ho4 : ops[m]? = some o4 := by exact rfl) : SD P ops Q S need (fuel + 1) listed n l L := sd_four i j k m hr (sa_sl i ho h) (sa_sl j ho' h') (sa_sl k ho3 h3) (sa_sl m ho4 h4)
theorem wu_ (i : Nat) (hi : ops[i]? = some ⟨some d, op, ty, pos, after, gd⟩) (hr : Pu P S n l op ty v) (h : SD P ops Q S need fuel (listed.setIfInBounds i true) n ((d, v) :: l) L) (hg : GdOk ops l gd true := by exact gd_) (hB : freeOk ops listed i = true := by kernel_rfl) (hN : stayOk2 ops listed need i = true := by kernel_rfl) (hQ : NoP Q := by exact nop_) (hd : Nat.blt d n = true := by exact rfl) (hS : ∀ w, Sep w L → S w := by exact fun w hw => all_ hw) : SD P ops Q S need (fuel + 1) listed n l L := sd_yes2 i hi hg hB hN hQ hr hd hS h
theorem wx_ (h : SE Q .normal n l L) (hr : Region.ready .any ops listed = [] := by kernel_rfl) : SD P ops Q S need fuel listed n l L := sd_done hr h
theorem v1_ {i : Nat} (j : Nat) (h : SL P ops (Exit.then (DK P ops Q S need fuel (listed.setIfInBounds i true) j) Q) [o] n l L) (hS : ∀ w, Sep w L → S w := by exact fun w hw => all_ hw) (hr : Region.ready .any ops (listed.setIfInBounds i true) = [j] := by kernel_rfl) (ho : ops[j]? = some o := by exact rfl) : SL P ops (Exit.then (DK P ops Q S need (fuel + 1) listed i) Q) [] n l L := wn_ (w1_ j h hr ho) hS
theorem v2_ {i : Nat} (j k : Nat) (h : SL P ops (Exit.then (DK P ops Q S need fuel (listed.setIfInBounds i true) j) Q) [o] n l L) (h' : SL P ops (Exit.then (DK P ops Q S need fuel (listed.setIfInBounds i true) k) Q) [o'] n l L) (hS : ∀ w, Sep w L → S w := by exact fun w hw => all_ hw) (hr : Region.ready .any ops (listed.setIfInBounds i true) = [j, k] := by kernel_rfl) (ho : ops[j]? = some o := by exact rfl) (ho' : ops[k]? = some o' := by exact rfl) : SL P ops (Exit.then (DK P ops Q S need (fuel + 1) listed i) Q) [] n l L := wn_ (w2_ j k h h' hr ho ho') hS
theorem y2_ {R : List Fa} {d1 : Tmp} {op1 : Op} {ty1 : TypeId} {pos1 : String} {after1 : Array Edge} {gd1 : Option (Nat × Bool)} {v1 : Value} {d2 : Tmp} {op2 : Op} {ty2 : TypeId} {pos2 : String} {after2 : Array Edge} {gd2 : Option (Nat × Bool)} {v2 : Value} (i j : Nat) (h : SD P ops Q (fun W => AllP W R) need fuel ((listed.setIfInBounds i true).setIfInBounds j true) n ((d2, v2) :: ((d1, v1) :: l)) L) (hQ : NoP Q := by exact nop_) (hS : ∀ w, Sep w L → AllP w R := by exact fun w hw => all_ hw) (hi1 : ops[i]? = some ⟨some d1, op1, ty1, pos1, after1, gd1⟩ := by exact rfl) (hg1 : GdOk ops l gd1 true := by exact gd_) (hB1 : freeOk ops listed i = true := by kernel_rfl) (hN1 : stayOk2 ops listed need i = true := by kernel_rfl) (hr1 : Pu P (fun W => AllP W R) n l op1 ty1 v1 := by exact PuI.all (by exact pv_)) (hd1 : Nat.blt d1 n = true := by exact rfl) (hi2 : ops[j]? = some ⟨some d2, op2, ty2, pos2, after2, gd2⟩ := by exact rfl) (hg2 : GdOk ops ((d1, v1) :: l) gd2 true := by exact gd_) (hB2 : freeOk ops (listed.setIfInBounds i true) j = true := by kernel_rfl) (hN2 : stayOk2 ops (listed.setIfInBounds i true) need j = true := by kernel_rfl) (hr2 : Pu P (fun W => AllP W R) n ((d1, v1) :: l) op2 ty2 v2 := by exact PuI.all (by exact pv_)) (hd2 : Nat.blt d2 n = true := by exact rfl) : SD P ops Q (fun W => AllP W R) need (fuel + 2) listed n l L := (wy_ i (wy_ j h hi2 hg2 hB2 hN2 hQ hr2 hd2 (fun w hw => hS w hw)) hi1 hg1 hB1 hN1 hQ hr1 hd1 (fun w hw => hS w hw))
theorem y4_ {R : List Fa} {d1 : Tmp} {op1 : Op} {ty1 : TypeId} {pos1 : String} {after1 : Array Edge} {gd1 : Option (Nat × Bool)} {v1 : Value} {d2 : Tmp} {op2 : Op} {ty2 : TypeId} {pos2 : String} {after2 : Array Edge} {gd2 : Option (Nat × Bool)} {v2 : Value} {d3 : Tmp} {op3 : Op} {ty3 : TypeId} {pos3 : String} {after3 : Array Edge} {gd3 : Option (Nat × Bool)} {v3 : Value} {d4 : Tmp} {op4 : Op} {ty4 : TypeId} {pos4 : String} {after4 : Array Edge} {gd4 : Option (Nat × Bool)} {v4 : Value} (i j k m : Nat) (h : SD P ops Q (fun W => AllP W R) need fuel ((((listed.setIfInBounds i true).setIfInBounds j true).setIfInBounds k true).setIfInBounds m true) n ((d4, v4) :: ((d3, v3) :: ((d2, v2) :: ((d1, v1) :: l)))) L) (hQ : NoP Q := by exact nop_) (hS : ∀ w, Sep w L → AllP w R := by exact fun w hw => all_ hw) (hi1 : ops[i]? = some ⟨some d1, op1, ty1, pos1, after1, gd1⟩ := by exact rfl) (hg1 : GdOk ops l gd1 true := by exact gd_) (hB1 : freeOk ops listed i = true := by kernel_rfl) (hN1 : stayOk2 ops listed need i = true := by kernel_rfl) (hr1 : Pu P (fun W => AllP W R) n l op1 ty1 v1 := by exact PuI.all (by exact pv_)) (hd1 : Nat.blt d1 n = true := by exact rfl) (hi2 : ops[j]? = some ⟨some d2, op2, ty2, pos2, after2, gd2⟩ := by exact rfl) (hg2 : GdOk ops ((d1, v1) :: l) gd2 true := by exact gd_) (hB2 : freeOk ops (listed.setIfInBounds i true) j = true := by kernel_rfl) (hN2 : stayOk2 ops (listed.setIfInBounds i true) need j = true := by kernel_rfl) (hr2 : Pu P (fun W => AllP W R) n ((d1, v1) :: l) op2 ty2 v2 := by exact PuI.all (by exact pv_)) (hd2 : Nat.blt d2 n = true := by exact rfl) (hi3 : ops[k]? = some ⟨some d3, op3, ty3, pos3, after3, gd3⟩ := by exact rfl) (hg3 : GdOk ops ((d2, v2) :: ((d1, v1) :: l)) gd3 true := by exact gd_) (hB3 : freeOk ops ((listed.setIfInBounds i true).setIfInBounds j true) k = true := by kernel_rfl) (hN3 : stayOk2 ops ((listed.setIfInBounds i true).setIfInBounds j true) need k = true := by kernel_rfl) (hr3 : Pu P (fun W => AllP W R) n ((d2, v2) :: ((d1, v1) :: l)) op3 ty3 v3 := by exact PuI.all (by exact pv_)) (hd3 : Nat.blt d3 n = true := by exact rfl) (hi4 : ops[m]? = some ⟨some d4, op4, ty4, pos4, after4, gd4⟩ := by exact rfl) (hg4 : GdOk ops ((d3, v3) :: ((d2, v2) :: ((d1, v1) :: l))) gd4 true := by exact gd_) (hB4 : freeOk ops (((listed.setIfInBounds i true).setIfInBounds j true).setIfInBounds k true) m = true := by kernel_rfl) (hN4 : stayOk2 ops (((listed.setIfInBounds i true).setIfInBounds j true).setIfInBounds k true) need m = true := by kernel_rfl) (hr4 : Pu P (fun W => AllP W R) n ((d3, v3) :: ((d2, v2) :: ((d1, v1) :: l))) op4 ty4 v4 := by exact PuI.all (by exact pv_)) (hd4 : Nat.blt d4 n = true := by exact rfl) : SD P ops Q (fun W => AllP W R) need (fuel + 4) listed n l L := (wy_ i (wy_ j (wy_ k (wy_ m h hi4 hg4 hB4 hN4 hQ hr4 hd4 (fun w hw => hS w hw)) hi3 hg3 hB3 hN3 hQ hr3 hd3 (fun w hw => hS w hw)) hi2 hg2 hB2 hN2 hQ hr2 hd2 (fun w hw => hS w hw)) hi1 hg1 hB1 hN1 hQ hr1 hd1 (fun w hw => hS w hw))
theorem vy_ {i : Nat} (j : Nat) (h : SD P ops Q S need fuel ((listed.setIfInBounds i true).setIfInBounds j true) n ((d, v) :: l) L) (hS : ∀ w, Sep w L → S w := by exact fun w hw => all_ hw) (hi : ops[j]? = some ⟨some d, op, ty, pos, after, gd⟩ := by exact rfl) (hg : GdOk ops l gd true := by exact gd_) (hB : freeOk ops (listed.setIfInBounds i true) j = true := by kernel_rfl) (hN : stayOk2 ops (listed.setIfInBounds i true) need j = true := by kernel_rfl) (hQ : NoP Q := by exact nop_) (hr : Pu P S n l op ty v := by exact PuI.all (by exact pv_)) (hd : Nat.blt d n = true := by exact rfl) : SL P ops (Exit.then (DK P ops Q S need (fuel + 1) listed i) Q) [] n l L := wn_ (wy_ j h hi hg hB hN hQ hr hd hS) hS
theorem vx_ {i : Nat} (h : SE Q .normal n l L) (hS : ∀ w, Sep w L → S w := by exact fun w hw => all_ hw) (hr : Region.ready .any ops (listed.setIfInBounds i true) = [] := by kernel_rfl) : SL P ops (Exit.then (DK P ops Q S need fuel listed i) Q) [] n l L := wn_ (wx_ h hr) hS
end
section
variable {P : Program} {ops : Array Oper} {Q : Exit → Act → World → Prop} {n : Nat} {l : Env} {L L1 : List Fa} {rest : List Oper} {d : Tmp} {ty : TypeId} {pos : String} {after : Array Edge} {x : Operand} {f : FuncId} {cap : List Value} {zs : List Operand} {vs : List Value} {ats : Array TypeId} {α : Type} {φ : α → Prop} {vv : α → Value} {H : α → List Fa} {args : Array Value} {dst : Option Tmp}
theorem slc_ (hx : ev l x = some (.func (.func f) #[] cap.toArray)) (hv : evs l zs = some vs) (hs : Sub L L1) (c : Fn P f (vs ++ cap).toArray L1 (Ret φ vv H)) (k : ∀ a, φ a → SL P ops Q rest n ((d, vv a) :: l) (H a)) (hf : callable P f = true := by kernel_rfl) (hd : Nat.blt d n = true := by exact rfl) : SL P ops Q (⟨some d, .call { callee := .value x, args := zs.toArray, argTypes := ats }, ty, pos, after, none⟩ :: rest) n l L := sl_call hx hv hf hd hs c k
end
section
variable {P : Program} {ops : Array Oper} {Q : Exit → Act → World → Prop} {n : Nat} {l : Env} {L : List Fa} {rest : List Oper} {d : Tmp} {t ty : TypeId} {pos : String} {after : Array Edge} {x : Operand} {z v : Value} {cs : List Value}
theorem al_ (h : ∀ g, SL P ops Q rest n ((d, .pointer (some ⟨g, 0, none⟩)) :: l) (blk g t cs :: L)) (hz : zeroOf P t = some z := by exact rfl) (hc : cellsO z = some cs := by exact rfl) (hd : Nat.blt d n = true := by exact rfl) : SL P ops Q (⟨some d, .alloc t, ty, pos, after, none⟩ :: rest) n l L := sl_alloc hz hc hd h
theorem bx_ (h : ∀ g, SL P ops Q rest n ((d, .pointer (some ⟨g, 0, none⟩)) :: l) (blk g t cs :: L)) (hx : ev l x = some v := by exact rfl) (hc : cellsO v = some cs := by exact rfl) (hd : Nat.blt d n = true := by exact rfl) : SL P ops Q (⟨some d, .box t x, ty, pos, after, none⟩ :: rest) n l L := sl_box hx hc hd h
theorem fe_ {f : FuncId} {fn : Func} {c : Code} {args : Array Value} {R : Ending → World → Prop} {N : Nat} (hf : P.funcs[f]? = some fn) (hN : fn.ntmps = N) (l : Env) (h : SC P c (bodyPost P fn R) N l L) (hb : fn.body = some c := by exact rfl) (ha : args.size ≤ N := by simp) (hl : ∀ d v, lk l d = some v → args[d]? = some v := by exact args_of (by simp)) : Fn P f args L R := fn_enter hf hb N hN ha l hl h
end
section
variable {P : Program} {Q : Exit → Act → World → Prop} {n : Nat} {l : Env} {L : List Fa}
theorem dr_ {id : Nat} {o : List Oper} (R : List Fa) (N : Nat) (h : SD P o.toArray Q (fun W => AllP W R) (fun _ => true) N (Array.replicate N false) n l L) (hm : P.follows .mixedOrders = true := by kernel_rfl) (hN : o.length = N := by exact rfl) : SC P (.region id o.toArray true) Q n l L := sd_drawn _ _ hm N hN h
theorem pa_ {op : Op} {ty : TypeId} {v : Value} (h : PuI P L l op v := by exact pv_) : Pu P (fun W => AllP W L) n l op ty v := h.all
theorem r1_ {fn : Func} {α : Type} {φ : α → Prop} {vv : α → Value} {H : α → List Fa} {t : Nat} (x : α) (hφ : φ x := by exact trivial) (hr : fn.results = #[.tmp t] := by exact rfl) (hv : lk l t = some (vv x) := by exact rfl) (hs : Sub L (H x) := by exact sub_) : SE (bodyPost P fn (Ret φ vv H)) .ret n l L := se_ret1 x hφ hr hv hs
theorem r2_ {fn : Func} {α : Type} {φ : α → Prop} {vv : α → Value} {H : α → List Fa} {t u : Nat} {v1 v2 : Value} (x : α) (hφ : φ x := by exact trivial) (hr : fn.results = #[.tmp t, .tmp u] := by exact rfl) (hv : lk l t = some v1 := by exact rfl) (hu : lk l u = some v2 := by exact rfl) (he : vv x = .tuple #[v1, v2] := by exact rfl) (hs : Sub L (H x) := by exact sub_) : SE (bodyPost P fn (Ret φ vv H)) .ret n l L := se_ret2 x hφ hr hv hu he hs
end
attribute [local irreducible] Go.Calls Go.Exit.then Go.Exit.inBlock Go.bodyPost Go.Code.wp Go.wpList
abbrev u8o (A : Option Addr) (c : Nat) (bs : List Int) : Fa := own 5 1 A bs.length c (bytes bs)
abbrev wrb (b : Nat) (A : Option Addr) (n c : Nat) : Fa := blk b 168 [.slice A n c]
theorem vw_len {K : List Fa} {X : Option Addr} {m : Nat} {xs : List Int} (hr : Vw K (fun w => Reads w 1 X m (bytes xs))) : ∀ w, Sep w K → xs.length = m := fun w hw => by
 have := (hr w hw).1
 simpa [bytes] using this
theorem bytes_app (a b : List Int) : bytes (a ++ b) = bytes a ++ bytes b := by simp [bytes]
theorem wRaw {K : List Fa} {b c m cap : Nat} {A X : Option Addr} {bs xs : List Int} (hr : Vw K (fun w => Reads w 1 X m (bytes xs))) (hm : bs.length + m ≤ 70368744177664) :
  Fn Tryz.prog 53 #[.pointer (some ⟨b, 0, none⟩), .slice X m cap] (wrb b A bs.length c :: u8o A c bs :: K) (Ret (fun _ : Option Addr × Nat => True) (fun _ => .tuple #[]) (fun p => wrb b p.1 (bs ++ xs).length p.2 :: u8o p.1 p.2 (bs ++ xs) :: K)) := by
 refine fn_know (fun w hw => vw_len hr w hw.tl.tl) ?_; intro hx; refine fe_ Tryz.func53 Tryz.ntmps53 [(0, .pointer (some ⟨b, 0, none⟩)), (1, .slice X m cap)] ?_; refine go_ ?_; refine sl_app rfl pick_ rfl (hr.mono sub_) (one_bytes _) rfl Tryz.info5 (by decide) (by decide) rfl (by unfold maxLen; omega) (by omega) ?_
 intro A' c'
 refine go_ ?_; refine se_end0 (A', c') trivial rfl rfl ?_; dsimp only
 unfold u8o wrb
 rw [List.length_append, hx, bytes_app]; exact sub_
theorem min_max8 {k : Nat} (hk : k ≤ 8) : (if (8 : Int) < (if (k : Int) < 0 then 0 else (k : Int)) then 8 else (if (k : Int) < 0 then 0 else (k : Int))) = (k : Int) := by
 split <;> split <;> omega
structure Wg where
 j : Nat
 A : Option Addr
 c : Nat
theorem wUint {K : List Fa} {b c : Nat} {A : Option Addr} {bs : List Int} {n : Int} {k : Nat} (hk : k ≤ 8) (h0 : 0 ≤ n) (h1 : n ≤ 18446744073709551615) (hm : bs.length + 8 ≤ 70368744177664) :
  Fn Tryz.prog 47 #[.pointer (some ⟨b, 0, none⟩), .int .u64 n, .int .i64 k] (wrb b A bs.length c :: u8o A c bs :: K) (Ret (fun _ : Option Addr × Nat => True) (fun _ => .tuple #[]) (fun p => wrb b p.1 (bs ++ le n k).length p.2 :: u8o p.1 p.2 (bs ++ le n k) :: K)) := by
 refine fe_ Tryz.func47 Tryz.ntmps47 [(0, .pointer (some ⟨b, 0, none⟩)), (1, .int .u64 n), (2, .int .i64 k)] ?_
 have hmm := min_max8 hk
 refine go_ ?_
 refine sc_for (fun g : Wg => [(0, .pointer (some ⟨b, 0, none⟩)), (1, .int .u64 n), (9, .int .i64 k), (10, .int .i64 g.j)]) (fun g => wrb b g.A (bs ++ le n g.j).length g.c :: u8o g.A g.c (bs ++ le n g.j) :: K) (fun g => g.j ≤ k) (fun g => k - g.j) ⟨0, A, c⟩ (by first | exact has_ | (rw [hmm]; exact has_)) (by simp only [le, List.range_zero, List.map_nil, List.append_nil]; exact Sub.refl) (Nat.zero_le _) ?_
 rintro ⟨j, A1, c1⟩ hj
 dsimp only at hj ⊢
 by_cases hlt : j < k
 ·refine go_ ?_; rw [IntKind.wrap_u8, show (8 * (j : Int)).toNat = 8 * j from by omega]; refine sl_build (size := 1) (e := 5) (cells := bytes [n / 2 ^ (8 * j) % 256]) rfl (fun W => by kernel_rfl) rfl (by decide) rfl ?_; intro gv; refine slc_ rfl rfl sub_ (wRaw (xs := [n / 2 ^ (8 * j) % 256]) (Vw.of_own (A := some ⟨gv, 0, none⟩) (c := 1) (e := 5) .here) (by simp [le_len]; omega)) ?_; rintro ⟨A2, c2⟩ -; refine go_ ?_
  refine se_round ⟨j + 1, A2, c2⟩ has_ ?_ hlt (by dsimp only; omega)
  dsimp only; rw [le_succ, ← List.append_assoc]; exact sub_
 ·refine go_ ?_
  obtain rfl : j = k := by omega
  exact se_end0 (A1, c1) trivial rfl rfl sub_
theorem wLong {K : List Fa} {b c m cap : Nat} {A X : Option Addr} {bs xs : List Int} (hr : Vw K (fun w => Reads w 1 X m (bytes xs))) (hm : bs.length + m ≤ 1000000000) :
  Fn Tryz.prog 54 #[.pointer (some ⟨b, 0, none⟩), .slice X m cap] (wrb b A bs.length c :: u8o A c bs :: K) (Ret (fun _ : Option Addr × Nat => True) (fun _ => .tuple #[]) (fun p => wrb b p.1 (bs ++ (le m 4 ++ xs)).length p.2 :: u8o p.1 p.2 (bs ++ (le m 4 ++ xs)) :: K)) := by
 refine fe_ Tryz.func54 Tryz.ntmps54 [(0, .pointer (some ⟨b, 0, none⟩)), (1, .slice X m cap)] ?_; refine go_ ?_; refine slc_ rfl rfl sub_ (wUint (n := (m : Int)) (k := 4) (by decide) (by omega) (by omega) (by omega)) ?_; rintro ⟨A1, c1⟩ -; refine go_ ?_; refine slc_ rfl rfl sub_ (wRaw hr (by simp [le_len]; omega)) ?_; rintro ⟨A2, c2⟩ -; refine go_ ?_; refine se_end0 (A2, c2) trivial rfl rfl ?_; dsimp only; rw [← List.append_assoc]; exact sub_
theorem wBytes {K : List Fa} {b c : Nat} {A : Option Addr} {bs : List Int} (hm : bs.length ≤ 70368744177664) :
  Fn Tryz.prog 98 #[.pointer (some ⟨b, 0, none⟩)] (wrb b A bs.length c :: u8o A c bs :: K) (Ret (fun _ : Option Addr × Nat => True) (fun p => .slice p.1 bs.length p.2) (fun p => u8o p.1 p.2 bs :: wrb b A bs.length c :: u8o A c bs :: K)) := by
 refine fe_ Tryz.func98 Tryz.ntmps98 [(0, .pointer (some ⟨b, 0, none⟩))] ?_; refine go_ ?_; refine sl_build0 (e := 5) (size := 1) rfl (fun W => by kernel_rfl) rfl ?_; intro g0; refine go_ ?_; refine sl_app rfl pick_ rfl (Vw.of_own (c := c) (e := 5) at_) (one_bytes _) rfl Tryz.info5 (by decide) (by decide) rfl (by unfold maxLen; omega) (by omega) ?_
 intro A' c'
 rw [Nat.zero_add, List.nil_append]; refine go_ ?_; exact r1_ (A', c')
end
end Go.Proofs.YtocaabnbmcpjmaaGreat
