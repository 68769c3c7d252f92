/- Several texts of one claim, one behind the other (Ids, Sp5, Reg2, Reg3, Sp6, Ap, Pw, Pr, Skr, Km, Ma). -/
import Derived.Test.YtocaabnbmcpjmaaGreatDoorB04
import Derived.Test.YtocaabnbmcpjmaaGreatDoorB03
import Derived.Test.YtocaabnbmcpjmaaGreatDoorB01
import Derived.Test.YtocaabnbmcpjmaaGreatDoorRows
import Derived.WideKeyArr
set_option linter.unusedVariables false
set_option linter.unusedSimpArgs false
/- Ids and reports as they lie in memory. -/
namespace Go.Proofs.YtocaabnbmcpjmaaGreatDoor
open Go.RowKit

/-- Sixteen bytes. -/
structure Id where
  l : List Int
  len : l.length = 16
  ok : IsBytes l
theorem Id.ext_ {a b : Id} (h : a.l = b.l) : a = b := by
  cases a
  cases b
  simp at h
  subst h
  rfl
abbrev Id.v (a : Id) : Value := .agg (bytes a.l).toArray
theorem bytes_length (xs : List Int) : (bytes xs).length = xs.length := by simp [bytes]
theorem Vw.of_blk {g : Nat} {t : TypeId} {cs : List Value} {n : Nat} {L : List Fa} (h : At (blk g t cs) L) (hn : cs.length = n) : Vw L (fun w => Reads w 1 (some ⟨g, 0, none⟩) n cs) := fun w hw => by
  have h1 : Blk w g t cs.toArray := by
    have := hw.at h
    unfold blk at this
    exact this
  have := Reads.of_blk (n := n) (size := 1) h1 (by simpa using hn)
  simpa using this

structure Seen where
  id : Id
  t : Int
  c : Int
  tb : 0 ≤ t ∧ t ≤ 18446744073709551615
  cb : -9223372036854775808 ≤ c ∧ c ≤ 9223372036854775807
def Seen.cells (s : Seen) : List Value := bytes s.id.l ++ [.int .u64 s.t, .int .i64 s.c]
abbrev Seen.v (s : Seen) : Value := .agg s.cells.toArray
theorem Seen.len (s : Seen) : s.cells.length = 18 := by simp [Seen.cells, bytes, s.id.len]
theorem Seen.one (s : Seen) : ∀ v ∈ s.cells, v.oneCell' = true := by
  intro v hv
  rcases List.mem_append.1 hv with h | h
  · exact one_bytes _ v h
  · simp at h
    rcases h with h | h <;> subst h <;> rfl
theorem Seen.nt (s : Seen) : nth s.cells 16 = some (.int .u64 s.t) := by
  rw [nth_eq, Seen.cells, List.getElem?_append_right (by simp [bytes, s.id.len])]
  simp [bytes, s.id.len]
theorem Seen.nc (s : Seen) : nth s.cells 17 = some (.int .i64 s.c) := by
  rw [nth_eq, Seen.cells, List.getElem?_append_right (by simp [bytes, s.id.len])]
  simp [bytes, s.id.len]
theorem Seen.mid (s : Seen) : Mid s.cells 0 (bytes s.id.l) := Mid.head
theorem Seen.ext_ {a b : Seen} (h : a.id.l = b.id.l) (h1 : a.t = b.t) (h2 : a.c = b.c) : a = b := by
  obtain ⟨a0, a1, a2, _, _⟩ := a
  obtain ⟨b0, b1, b2, _, _⟩ := b
  have := Id.ext_ h
  simp at this h1 h2
  subst this h1 h2
  rfl

end Go.Proofs.YtocaabnbmcpjmaaGreatDoor
/- More steps over facts. No program is in sight. -/
namespace Go.Proofs.YtocaabnbmcpjmaaGreatDoor
open Go.RowKit
theorem SE.to {Q : Exit → Act → World → Prop} {e : Exit} {n : Nat} {l : Env} {L : List Fa} {w : World} (hw : Sep w L) (h : SE Q e n l L) : WE Q e n l w := by
  unfold SE at h
  exact h w hw
theorem nth_mid {pre m post : List Value} {k i : Nat} {v : Value} (hk : pre.length = k) (h : nth m i = some v) : nth (pre ++ m ++ post) (k + i) = some v := by
  rw [nth_eq] at h ⊢
  exact Mid.of_append hk i v h
end Go.Proofs.YtocaabnbmcpjmaaGreatDoor
/- A region that draws its order, in two parts: what only reads is taken first, wherever it stands; then the rest. No program is in sight. -/
namespace Go.Proofs.YtocaabnbmcpjmaaGreatDoor
open Go.RowKit
section
variable {P : Program} {ops : Array Oper} {Q : Exit → Act → World → Prop} {md : Region.Mode} {S : World → Prop} {need : Nat → Bool}
/-- Whatever order is picked from here on; what 'need' names keeps S. -/
def wpAnyE (P : Program) (md : Region.Mode) (ops : Array Oper) (Q : Exit → Act → World → Prop) (S : World → Prop) (need : Nat → Bool) : Nat → Array Bool → Act → World → Prop
  | 0, listed, a, w => Region.ready md ops listed = [] ∧ Q .normal a w
  | fuel + 1, listed, a, w =>
    (Region.ready md ops listed = [] → Q .normal a w) ∧
    ∀ i ∈ Region.ready md ops listed, wpOp P ops Q i (fun a' w' => (need i = true → S w → S w') ∧ wpAnyE P md ops Q S need fuel (listed.setIfInBounds i true) a' w') a w
end
section
variable {P : Program} {ops : Array Oper} {Q : Exit → Act → World → Prop} {n : Nat} {l : Env} {L L' : List Fa} {S : World → Prop} {need : Nat → Bool} {fuel : Nat} {listed : Array Bool} {d : Tmp} {op : Op} {ty : TypeId} {pos : String} {after : Array Edge} {v : Value}
/-- A region that draws its order: its first part. -/
def SX (P : Program) (ops : Array Oper) (Q : Exit → Act → World → Prop) (S : World → Prop) (need : Nat → Bool) (fuel : Nat) (listed : Array Bool) (n : Nat) (l : Env) (L : List Fa) : Prop := ∀ w, Sep w L → ∀ a, Sl n l a → wpAnyE P .any ops Q S need fuel listed a w
def freeOk (ops : Array Oper) (listed : Array Bool) (i : Nat) : Bool := Region.noSelect ops && Region.free .any ops listed i && (Region.ready .any ops listed).contains i
theorem freeOk_spec {i : Nat} (h : freeOk ops listed i = true) : Region.noSelect ops = true ∧ Region.free .any ops listed i = true ∧ (Region.ready .any ops listed).contains i = true := by
  unfold freeOk at h
  simp only [Bool.and_eq_true] at h
  exact ⟨h.1.1, h.1.2, h.2⟩
theorem PuI.free {C : World → Prop} (h : PuI P [] l op v) : Pu P C n l op ty v := h.pu fun _ _ _ hf => by cases hf
attribute [irreducible] SX
end
end Go.Proofs.YtocaabnbmcpjmaaGreatDoor
/- A region that draws its order: batches of what reads; what writes or calls goes by the steps of plain regions. No program is in sight. -/
namespace Go.Proofs.YtocaabnbmcpjmaaGreatDoor
open Go.RowKit
section
variable {P : Program} {ops : Array Oper} {Q : Exit → Act → World → Prop} {n : Nat} {l : Env} {L L' : List Fa} {S : World → Prop} {need : Nat → Bool} {fuel : Nat} {listed : Array Bool} {o : Oper} {i : Nat}
theorem wpOp_of_list {K : Act → World → Prop} {a : Act} {w : World} (ho : ops[i]? = some o) (h : wpList P ops (Exit.then K Q) [o] a w) : wpOp P ops Q i K a w := by
  unfold wpOp
  rw [ho]
  exact h
/-- What stands behind an operation of such a region. -/
def DK (P : Program) (ops : Array Oper) (Q : Exit → Act → World → Prop) (S : World → Prop) (need : Nat → Bool) (fuel : Nat) (listed : Array Bool) (i : Nat) : Act → World → Prop := fun a w => (need i = true → S w) ∧ wpAnyD P .any ops Q S need fuel (listed.setIfInBounds i true) a w
theorem sa_sl (i : Nat) (ho : ops[i]? = some o) (h : SL P ops (Exit.then (DK P ops Q S need fuel listed i) Q) [o] n l L) : SA P ops Q S need fuel listed n l L i := sa_of fun w hw => by
  unfold WA
  exact fun a hs => wpOp_of_list ho ((h.to hw).get hs)
theorem sd_one (i : Nat) (hr : Region.ready .any ops listed = [i]) (h : SA P ops Q S need fuel listed n l L i) : SD P ops Q S need (fuel + 1) listed n l L := sd_of fun w hw => by
  have h1 := h.to hw
  unfold WA at h1
  unfold WD
  exact fun a hs => D_one hr (h1 a hs)
theorem sd_many (is : List Nat) (hr : Region.ready .any ops listed = is) (hne : is ≠ []) (h : ∀ i ∈ is, SA P ops Q S need fuel listed n l L i) : SD P ops Q S need (fuel + 1) listed n l L := sd_of fun w hw => by
  unfold WD
  intro a hs
  refine ⟨fun h0 => absurd (hr ▸ h0) hne, fun k hk => ?_⟩
  have h1 := (h k (hr ▸ hk)).to hw
  unfold WA at h1
  exact h1 a hs
theorem sd_three (i j k : Nat) (hr : Region.ready .any ops listed = [i, j, k]) (hi : SA P ops Q S need fuel listed n l L i) (hj : SA P ops Q S need fuel listed n l L j) (hk : SA P ops Q S need fuel listed n l L k) : SD P ops Q S need (fuel + 1) listed n l L :=
  sd_many [i, j, k] hr (by simp) (fun x hx => by
    simp only [List.mem_cons, List.not_mem_nil, or_false] at hx
    rcases hx with h | h | h <;> (subst h; assumption))
theorem sd_four (i j k m : Nat) (hr : Region.ready .any ops listed = [i, j, k, m]) (hi : SA P ops Q S need fuel listed n l L i) (hj : SA P ops Q S need fuel listed n l L j) (hk : SA P ops Q S need fuel listed n l L k) (hm : SA P ops Q S need fuel listed n l L m) : SD P ops Q S need (fuel + 1) listed n l L :=
  sd_many [i, j, k, m] hr (by simp) (fun x hx => by
    simp only [List.mem_cons, List.not_mem_nil, or_false] at hx
    rcases hx with h | h | h | h <;> (subst h; assumption))
/-- The operation is done. -/
theorem se_sd (hS : need i = true → ∀ w, Sep w L → S w) (h : SD P ops Q S need fuel (listed.setIfInBounds i true) n l L) : SE (Exit.then (DK P ops Q S need fuel listed i) Q) .normal n l L := se_of fun w hw => WE.mk fun a hs => by
  have h1 := h.to hw
  unfold WD at h1
  exact ⟨fun e => hS e w hw, h1 a hs⟩
/-! Batches. -/
def GdOk (ops : Array Oper) (l : Env) : Option (Nat × Bool) → Bool → Prop
  | none, y => y = true
  | some (j, b), y => ∃ t c, (ops[j]?).bind (·.dst) = some t ∧ lk l t = some (.bool c) ∧ y = (b == c)
theorem GdOk.none : GdOk ops l none true := rfl
theorem GdOk.some {j t : Nat} {b c : Bool} (hj : (ops[j]?).bind (·.dst) = some t) (ht : lk l t = some (.bool c)) {y : Bool} (hy : (b == c) = y) : GdOk ops l (some (j, b)) y := ⟨t, c, hj, ht, hy.symm⟩
theorem GdOk.wanted {gd : Option (Nat × Bool)} {y : Bool} {dst : Option Tmp} {op : Op} {ty : TypeId} {pos : String} {after : Array Edge} {a : Act} (h : GdOk ops l gd y) (hs : Sl n l a) : Region.wanted ⟨dst, op, ty, pos, after, gd⟩ (yielded ops a.tmps) = y := by
  cases gd with
  | none =>
    cases h
    rfl
  | some p =>
    obtain ⟨j, b⟩ := p
    obtain ⟨t, c, h1, h2, h3⟩ := h
    unfold Region.wanted
    simp only [hs.yield h1 h2]
    rw [h3]
    cases b <;> cases c <;> rfl
/-- Does number j wait for number i, by itself or through others that did not come up yet? -/
def waitsFor (ops : Array Oper) (listed : Array Bool) (i : Nat) : Nat → Nat → Bool
  | 0, _ => false
  | f + 1, j => !listed.getD j true && ((ops[j]?).map fun o => o.after.any fun e => Region.binds .any e && (e.on == i || waitsFor ops listed i f e.on)).getD false
def stayOk2 (ops : Array Oper) (listed : Array Bool) (need : Nat → Bool) (i : Nat) : Bool :=
  (List.range ops.size).all fun j => j == i || listed.getD j true || need j || waitsFor ops listed i ops.size j
theorem stayOk2_spec {i : Nat} (h : stayOk2 ops listed need i = true) (j : Nat) (oj : Oper) (hj : ops[j]? = some oj) (hji : j ≠ i) (hun : listed.getD j true = false) (hR : ¬ ∃ f, waitsFor ops listed i f j = true) : need j = true := by
  unfold stayOk2 at h
  rw [List.all_eq_true] at h
  have h1 := h j (List.mem_range.2 (Array.getElem?_eq_some_iff.1 hj).1)
  simp only [Bool.or_eq_true, beq_iff_eq, hun, Bool.false_eq_true, or_false] at h1
  rcases h1 with (h1 | h1) | h1
  · exact absurd h1 hji
  · exact h1
  · exact absurd ⟨_, h1⟩ hR
theorem waitsFor_un {i j f : Nat} (h : waitsFor ops listed i f j = true) : listed.getD j true = false := by
  cases f with
  | zero => cases h
  | succ f =>
    unfold waitsFor at h
    rw [Bool.and_eq_true] at h
    simpa using h.1
theorem waitsFor_edge {i j f : Nat} {oj : Oper} (h : waitsFor ops listed i f j = true) (hj : ops[j]? = some oj) : ∃ e ∈ oj.after, Region.binds .any e = true ∧ (e.on = i ∨ ∃ f, waitsFor ops listed i f e.on = true) := by
  cases f with
  | zero => cases h
  | succ f =>
    unfold waitsFor at h
    rw [Bool.and_eq_true, hj] at h
    have h2 := h.2
    simp only [Option.map_some, Option.getD_some, Array.any_eq_true] at h2
    obtain ⟨k, hk, he⟩ := h2
    rw [Bool.and_eq_true, Bool.or_eq_true, beq_iff_eq] at he
    exact ⟨_, Array.getElem_mem hk, he.1, he.2.imp id (fun h => ⟨f, h⟩)⟩
/-- One that yields while S holds; what may come before it (without waiting for it, by itself or through others) keeps S. -/
theorem wpAnyD_first2 {R : Nat → Prop} {i : Nat} {oi : Oper} {v : Value} (hi : ops[i]? = some oi) (hsel : ∀ (j : Nat) (o : Oper) cs b, ops[j]? = some o → o.op ≠ .select cs b)
    (hQ : ∀ c a w, Q (.panic c) (a.put oi.dst v) w → Q (.panic c) a w)
    (hR : ∀ j oj, R j → ops[j]? = some oj → ∃ e ∈ oj.after, Region.binds .any e = true ∧ (e.on = i ∨ R e.on)) :
    ∀ (fuel : Nat) (listed : Array Bool) (a : Act) (w : World), (∀ j oj, ops[j]? = some oj → j ≠ i → listed.getD j true = false → ¬ R j → need j = true) → (∀ j, R j → listed.getD j true = false) →
      (∀ j oj, ops[j]? = some oj → j ≠ i → listed.getD j true = false → (∀ e ∈ oj.after, Region.binds .any e = true → e.on ≠ i) → oi.apart ops oj = true) →
      i ∈ Region.ready .any ops listed → YieldsIf P ops S oi v a → S w →
      wpAnyD P .any ops Q S need fuel (listed.setIfInBounds i true) (a.put oi.dst v) w → wpAnyD P .any ops Q S need (fuel + 1) listed a w := by
  intro fuel
  induction fuel with
  | zero =>
    intro listed a w _ _ _ hr hy hY H
    refine ⟨fun h => (by rw [h] at hr; cases hr), fun j hj => ?_⟩
    by_cases hji : j = i
    · subst hji; exact hy.wpOp hi hY ⟨fun _ => hY, H⟩
    · have := ready_mono hj hji
      rw [H.1] at this
      cases this
  | succ fuel ih =>
    intro listed a w hneed hRu hfree hr hy hY H
    refine ⟨fun h => (by rw [h] at hr; cases hr), fun j hj => ?_⟩
    by_cases hji : j = i
    · subst hji; exact hy.wpOp hi hY ⟨fun _ => hY, H⟩
    · have h1 := H.2 j (ready_mono hj hji)
      obtain ⟨hjun, oj, hoj, hall⟩ := mem_ready.1 hj
      have hiun : listed.getD i true = false := (mem_ready.1 hr).1
      have hlt : ∀ k, listed.getD k true = false → listed.getD k false = false := fun k h => by
        rcases Nat.lt_or_ge k listed.size with h' | h'
        · simp [h'] at h ⊢; exact h
        · simp [Array.getElem?_eq_none h']
      have hnot : ∀ e ∈ oj.after, Region.binds .any e = true → e.on ≠ i := fun e he hb heq => by
        have h1 := hall e he hb
        rw [heq, hlt i hiun] at h1
        cases h1
      have hnR : ¬ R j := fun hRj => by
        obtain ⟨e, he, hb, h2⟩ := hR j oj hRj hoj
        rcases h2 with h2 | h2
        · exact hnot e he hb h2
        · have h1 := hall e he hb
          rw [hlt _ (hRu _ h2)] at h1
          cases h1
      have hnd := hneed j oj hoj hji hjun hnR
      have h2 := wpOp_putIf hoj (hfree j oj hoj hji hjun hnot) (fun cs b => hsel i oi cs b hi) (fun cs b => hsel j oj cs b hoj) hQ hy h1
      have hlist : ∀ k, (listed.setIfInBounds j true).getD k true = false → listed.getD k true = false := fun k hun => by
        by_cases hjk : j = k
        · subst hjk; exact hjun
        · rw [getD_set_ne true hjk] at hun; exact hun
      refine wpOp_mono (fun a' w' h3 => ⟨h3.2.1, ih (listed.setIfInBounds j true) a' w' (fun k ok hk hki hun hno => hneed k ok hk hki (hlist k hun) hno) (fun k hk => ?_) (fun k ok hk hki hun hno => hfree k ok hk hki (hlist k hun) hno) (ready_mono hr (Ne.symm hji)) h3.1 (h3.2.1 hnd) ?_⟩) h2
      · rw [getD_set_ne true (fun e : j = k => hnR (e ▸ hk))]
        exact hRu k hk
      · rw [Array.setIfInBounds_comm _ _ hji]
        exact h3.2.2
/-- All of some facts, and the rest K as a whole. -/
def S2 (K L0 : List Fa) (W : World) : Prop := Sep W K ∧ AllP W L0
theorem PuI.all2 {K : List Fa} {op : Op} {ty : TypeId} {v : Value} (h : PuI P L l op v) : Pu P (S2 K L) n l op ty v := h.pu fun _ hW _ hf => hW.2.at hf
section
variable {d : Tmp} {op : Op} {ty : TypeId} {pos : String} {after : Array Edge} {v : Value} {gd : Option (Nat × Bool)}
theorem sd_yes2 (i : Nat) (hi : ops[i]? = some ⟨some d, op, ty, pos, after, gd⟩) (hg : GdOk ops l gd true) (hB : freeOk ops listed i = true) (hN : stayOk2 ops listed need i = true)
    (hQ : NoP Q) (hr : Pu P S n l op ty v) (hd : Nat.blt d n = true) (hS : ∀ w, Sep w L → S w) (h : SD P ops Q S need fuel (listed.setIfInBounds i true) n ((d, v) :: l) L) : SD P ops Q S need (fuel + 1) listed n l L := sd_of fun w hw => by
  have h1 := h.to hw
  unfold WD at h1 ⊢
  unfold Pu at hr
  intro a hs
  obtain ⟨b1, b2, b3⟩ := freeOk_spec hB
  exact wpAnyD_first2 (R := fun j => ∃ f, waitsFor ops listed i f j = true) hi (Region.noSelect_spec b1) (fun c a w => hQ c a _ _ w) (fun j oj ⟨f, hf⟩ hj => waitsFor_edge hf hj) fuel listed a w (fun j oj hj hji hun hnR => stayOk2_spec hN j oj hj hji hun hnR) (fun j ⟨f, hf⟩ => waitsFor_un hf) (Region.free_spec hi b2) (by simpa using b3) (.inl ⟨hg.wanted hs, fun W hW => hr a _ _ _ _ W hs hW⟩) (hS w hw) (h1 _ (hs.put hd v))
/-- One that is passed by. -/
theorem sd_off2 (i : Nat) (hi : ops[i]? = some ⟨some d, op, ty, pos, after, gd⟩) (hg : GdOk ops l gd false) (hB : freeOk ops listed i = true) (hN : stayOk2 ops listed need i = true)
    (hQ : NoP Q) (hd : Nat.blt d n = true) (hS : ∀ w, Sep w L → S w) (h : SD P ops Q S need fuel (listed.setIfInBounds i true) n ((d, undef) :: l) L) : SD P ops Q S need (fuel + 1) listed n l L := sd_of fun w hw => by
  have h1 := h.to hw
  unfold WD at h1 ⊢
  intro a hs
  obtain ⟨b1, b2, b3⟩ := freeOk_spec hB
  exact wpAnyD_first2 (R := fun j => ∃ f, waitsFor ops listed i f j = true) hi (Region.noSelect_spec b1) (fun c a w => hQ c a _ _ w) (fun j oj ⟨f, hf⟩ hj => waitsFor_edge hf hj) fuel listed a w (fun j oj hj hji hun hnR => stayOk2_spec hN j oj hj hji hun hnR) (fun j ⟨f, hf⟩ => waitsFor_un hf) (Region.free_spec hi b2) (by simpa using b3) (.inr ⟨hg.wanted hs, rfl⟩) (hS w hw) (h1 _ (hs.put hd undef))
end
end
end Go.Proofs.YtocaabnbmcpjmaaGreatDoor
/- More about facts: one out of many, and back. No program is in sight. -/
namespace Go.Proofs.YtocaabnbmcpjmaaGreatDoor
open Go.RowKit
theorem Pick.foot {f : Fa} {L L' : List Fa} (h : Pick f L L') (k : Nat) : foot L k ↔ foot (f :: L') k := by
  constructor
  · rintro ⟨g, hg, hk⟩
    refine ⟨g, ?_, hk⟩
    rcases (h.mem g).1 hg with e | e
    · exact e ▸ List.mem_cons_self ..
    · exact List.mem_cons_of_mem _ e
  · rintro ⟨g, hg, hk⟩
    refine ⟨g, (h.mem g).2 ?_, hk⟩
    rcases List.mem_cons.1 hg with e | e
    · exact .inl e
    · exact .inr e
theorem Pick.back {f : Fa} {L L' : List Fa} (h : Pick f L L') : Ent_ (f :: L') L := by
  induction h with
  | here => exact fun w hw => hw
  | there hp ih => exact fun w hw => Ent_.tail ih (fun k hk => (hp.foot k).1 hk) w (hw.sub (.cons (.there .here) (.cons .here .refl)))
theorem Pick.out {f : Fa} {L L' : List Fa} (h : Pick f L L') : Ent_ L (f :: L') := fun _ hw => hw.pick h
theorem pick_mid {f : Fa} : ∀ (A : List Fa) {B : List Fa}, Pick f (A ++ f :: B) (A ++ B)
  | [], _ => .here
  | _ :: A, _ => .there (pick_mid A)
theorem bytes_at {xs : List Int} {k : Nat} (h : k < xs.length) : nth (bytes xs) k = some (.int .u8 xs[k]) := by
  rw [nth_eq]
  simp [bytes, h]
theorem IsBytes.set {xs : List Int} (h : IsBytes xs) (k : Nat) {v : Int} (h0 : 0 ≤ v) (h1 : v < 256) : IsBytes (xs.set k v) := fun x hx => by
  rcases List.mem_or_eq_of_mem_set hx with e | e
  · exact h x e
  · subst e
    exact ⟨h0, h1⟩
section
variable {P : Program} {ops : Array Oper} {Q : Exit → Act → World → Prop} {n : Nat} {l : Env} {rest : List Oper} {ty : TypeId} {pos : String} {after : Array Edge} {v : Value} {op : Op} {w w' : World}
end
end Go.Proofs.YtocaabnbmcpjmaaGreatDoor
/- Short words for what is found by looking: a premise that is filled in by the steps written here once. No program is in sight. -/
namespace Go.Proofs.YtocaabnbmcpjmaaGreatDoor
open Go.RowKit
theorem at_ {φ : Prop} (h : φ := by (repeat (first | exact At.here | assumption | refine At.there ?_)); first | done | fail) : φ := h
theorem pick_ {φ : Prop} (h : φ := by (repeat (first | exact Pick.here | apply Pick.there)); first | done | fail) : φ := h
theorem sub_ {φ : Prop} (h : φ := by (repeat (first | exact Sub.refl | exact Sub.nil | (apply Sub.cons; (repeat (first | exact Pick.here | apply Pick.there)); show Sub _ _) | apply Sub.skip)); first | done | fail) : φ := h
theorem has_ {φ : Prop} (h : φ := by (repeat (first | exact has_nil | refine has_cons rfl ?_)); first | done | fail) : φ := h
theorem nop_ {φ : Prop} (h : φ := by repeat (first | exact nop_body | refine nop_then ?_ | refine nop_block ?_)) : φ := h
inductive AtAll (L : List Fa) : List Fa → Prop
  | nil : AtAll L []
  | cons {f : Fa} {r : List Fa} (h : At f L) (hr : AtAll L r) : AtAll L (f :: r)
theorem AtAll.all {w : World} {L r : List Fa} (hw : Sep w L) (h : AtAll L r) : AllP w r := by
  induction h with
  | nil => exact AllP.nil
  | cons h _ ih => exact AllP.cons (hw.at h) ih
theorem all_ {w : World} {L r : List Fa} (hw : Sep w L) (h : AtAll L r := by (repeat (first | exact AtAll.nil | refine AtAll.cons (by exact at_) ?_)); first | done | fail) : AllP w r := h.all hw
theorem gd_ {φ : Prop} (h : φ := by first | exact GdOk.none | exact GdOk.some rfl rfl rfl) : φ := h
structure Hide (p : Prop) : Prop where
  out : p
theorem so_ {φ ψ : Prop} (k : ψ) (h : Hide ψ → φ := by (intro k; (first | refine sc_seq ?_ | refine sc_region ?_ | refine sl_nil ?_ | refine se_seq ?_ | refine sc_cond rfl (by constructor) ?_ | refine sc_skip ?_ | refine sc_block ?_ | refine se_blk (by first | exact .n | exact .h | exact .m rfl | exact .r | exact .p) ?_ | refine sc_exit ?_ | refine se_pass (by constructor) ?_ | refine sc_ret ?_); exact k.out)) : φ := h ⟨k⟩
section
variable {P : Program} {ops : Array Oper} {Q : Exit → Act → World → Prop} {n : Nat} {l : Env} {L L1 : List Fa} {rest : List Oper} {d : Tmp} {ty : TypeId} {pos : String} {after : Array Edge} {x : Operand} {f : FuncId} {cap : List Value} {zs : List Operand} {vs : List Value} {ats : Array TypeId} {α : Type} {φ : α → Prop} {vv : α → Value} {H : α → List Fa} {args : Array Value} {dst : Option Tmp}
end
end Go.Proofs.YtocaabnbmcpjmaaGreatDoor
/- pack.Writer over facts; the reference's Uint and Long. -/
namespace Go.Proofs.YtocaabnbmcpjmaaGreatDoor
open Go.RowKit
attribute [local irreducible] Go.Calls Go.Exit.then Go.Exit.inBlock Go.bodyPost Go.Code.wp Go.wpList

abbrev u8o (A : Option Addr) (c : Nat) (bs : List Int) : Fa := own 5 1 A bs.length c (bytes bs)
abbrev wrb (b : Nat) (A : Option Addr) (n c : Nat) : Fa := blk b 144 [.slice A n c]
theorem vw_len {K : List Fa} {X : Option Addr} {m : Nat} {xs : List Int} (hr : Vw K (fun w => Reads w 1 X m (bytes xs))) : ∀ w, Sep w K → xs.length = m := fun w hw => by
  have := (hr w hw).1
  simpa [bytes] using this
theorem bytes_app (a b : List Int) : bytes (a ++ b) = bytes a ++ bytes b := by simp [bytes]

theorem nth_Pw {φ : Prop} (h : φ := by (first | rfl | rfl)) : φ := h
theorem mid_Pw {φ : Prop} (h : φ := by (first | exact Mid.all | exact Mid.all | exact Mid.head)) : φ := h
theorem sz_Pw {φ : Prop} (h : φ := by (first | rfl | (rfl; first | done | fail))) : φ := h
theorem one_Pw {φ : Prop} (h : φ := by (first | assumption | exact one_bytes _ | (simp only [List.mem_cons, List.not_mem_nil, or_false, forall_eq_or_imp, forall_eq]; decide) | exact one_bytes _ | (intro v hv; (repeat (rcases List.mem_cons.1 hv with rfl | hv; rfl)); cases hv))) : φ := h
theorem set_Pw {φ : Prop} (h : φ := by (first | (fail) | ((repeat (first | exact SetAt.here | apply SetAt.there)); first | done | fail))) : φ := h
theorem cl_Pw {φ : Prop} (h : φ := by first | rfl | exact .t | exact .f | exact .t (by omega) | exact .f (by omega) | exact .u | exact .i (by (first | exact .t (by omega) | exact .f (by omega) | exact .u | exact .i (by omega) | exact .v (by omega) | exact .b (by omega) | exact .w | rfl | omega)) | exact .v (by omega) | exact .b (by omega) | exact .q (by omega) | exact .w | exact .b (by exact at_) rfl (by exact nth_Pw) | exact .w (by exact at_) rfl rfl (by exact sz_Pw) | exact .s (by exact at_) (by exact mid_Pw) rfl rfl (by exact sz_Pw) | exact .z rfl rfl ⟨by kernel_rfl⟩ | exact .b rfl rfl ⟨by kernel_rfl⟩ | exact .a rfl rfl ⟨by kernel_rfl⟩ | exact .o rfl | exact .s | exact .n | exact .p rfl | exact .q rfl | exact .c rfl | exact .d rfl | exact .n rfl rfl (by omega) | exact .a rfl rfl (by omega) | exact .p rfl rfl (by omega) (by omega) | exact .y rfl rfl (by omega) (by omega) | exact .o (by exact at_) (by omega) rfl (by exact nth_Pw) | exact .m (by exact at_) (by omega) (by exact mid_Pw) rfl rfl (by exact sz_Pw) | exact .mlen (by exact at_) rfl | exact .t (by exact at_) rfl rfl (by first | exact True.intro | rfl) (by assumption) | exact .f (by exact at_) rfl rfl (by first | exact True.intro | rfl) (by assumption) rfl | exact .t1 (by exact at_) rfl rfl (by first | exact True.intro | rfl) (by assumption) | exact .f1 (by exact at_) rfl rfl (by first | exact True.intro | rfl) (by assumption) rfl | exact .tk (by exact at_) rfl (by assumption) (by assumption) | exact .fk (by exact at_) rfl (by assumption) (by assumption) rfl | exact .tk1 (by exact at_) rfl (by assumption) (by assumption) | exact .fk1 (by exact at_) rfl (by assumption) (by assumption) rfl | exact .r rfl rfl (by omega) (by omega) (by exact nth_Pw) rfl | exact .s rfl (by omega) (by assumption) | exact at_ | assumption | exact .r rfl rfl | exact .h rfl rfl rfl (by omega) | exact .l rfl rfl rfl (by omega) (by omega) | exact .g rfl rfl rfl rfl (by omega) (by omega) | exact .h rfl rfl (toN_ (by omega)) (by omega) | exact .l rfl rfl (toN_ (by omega)) (by omega) (by omega) | exact .g rfl rfl (toN_ (by omega)) (toN_ (by omega)) (by omega) (by omega) | exact .o (by decide) | exact .f (by decide) | exact .n (by omega) (by first | decide | (show _ ≤ ((64 : Nat) : Int); omega)) | (constructor; (repeat (first | exact .t (by omega) | exact .f (by omega) | exact .u | exact .i (by omega) | exact .v (by omega) | exact .b (by omega) | exact .w | rfl | omega)); first | done | fail) | omega | (show _ ≤ ((64 : Nat) : Int); omega)) : φ := h
theorem pv_Pw {φ : Prop} (h : φ := by constructor; (repeat exact cl_Pw); first | done | fail) : φ := h
theorem su_Pw {φ ψ : Prop} (k : ψ) (h : Hide ψ → φ := by (intro k; (first | refine sl_pu (PuI.sep (by exact pv_Pw)) rfl ?_ | refine sl_yes rfl rfl ?_ | refine sl_no rfl rfl rfl ?_ | refine sl_off rfl rfl rfl ?_ | (fail)); exact k.out)) : φ := h ⟨k⟩
theorem sto_Pw {φ ψ : Prop} (k : ψ) (h : Hide ψ → φ := by (intro k; (first | refine sl_store rfl (by exact pick_) rfl rfl (by kernel_rfl) (by exact set_Pw) ?_ | refine sl_store_whole rfl (by exact pick_) rfl (by exact sz_Pw) (by exact sz_Pw) (by exact one_Pw) ?_); exact k.out)) : φ := h ⟨k⟩
theorem go_Pw {φ ψ : Prop} (k : ψ) (h : Hide ψ → φ := by (intro k; (repeat (first | refine su_Pw ?_ | refine so_ ?_ | refine sto_Pw ?_)); exact k.out)) : φ := h ⟨k⟩
set_option maxRecDepth 100000 in
theorem wRaw {K : List Fa} {b c m cap : Nat} {A X : Option Addr} {bs xs : List Int} (hr : Vw K (fun w => Reads w 1 X m (bytes xs))) (hm : bs.length + m ≤ 70368744177664) :
    Fn Tryz.prog 57 #[.pointer (some ⟨b, 0, none⟩), .slice X m cap] (wrb b A bs.length c :: u8o A c bs :: K) (Ret (fun _ : Option Addr × Nat => True) (fun _ => .tuple #[]) (fun p => wrb b p.1 (bs ++ xs).length p.2 :: u8o p.1 p.2 (bs ++ xs) :: K)) := by
  refine fn_know (fun w hw => vw_len hr w hw.tl.tl) ?_
  intro hx
  refine fn_enter Tryz.func57 rfl _ Tryz.ntmps57 (by simp) [(0, .pointer (some ⟨b, 0, none⟩)), (1, .slice X m cap)] (args_of (by simp)) ?_
  refine go_Pw ?_
  refine sl_app rfl (by exact pick_) rfl (hr.mono (by exact sub_)) (one_bytes _) rfl Tryz.info5 (by decide) (by decide) rfl (by unfold maxLen; omega) (by omega) ?_
  intro A' c'
  refine go_Pw ?_
  refine se_end0 (A', c') trivial rfl rfl ?_
  dsimp only
  unfold u8o wrb
  rw [List.length_append, hx, bytes_app]
  exact sub_

theorem min_max8 {k : Nat} (hk : k ≤ 8) : (if (8 : Int) < (if (k : Int) < 0 then 0 else (k : Int)) then 8 else (if (k : Int) < 0 then 0 else (k : Int))) = (k : Int) := by
  split <;> split <;> omega
structure Wg where
  j : Nat
  A : Option Addr
  c : Nat
set_option maxRecDepth 100000 in
theorem wUint {K : List Fa} {b c : Nat} {A : Option Addr} {bs : List Int} {n : Int} {k : Nat} (hk : k ≤ 8) (h0 : 0 ≤ n) (h1 : n ≤ 18446744073709551615) (hm : bs.length + 8 ≤ 70368744177664) :
    Fn Tryz.prog 28 #[.pointer (some ⟨b, 0, none⟩), .int .u64 n, .int .i64 k] (wrb b A bs.length c :: u8o A c bs :: K) (Ret (fun _ : Option Addr × Nat => True) (fun _ => .tuple #[]) (fun p => wrb b p.1 (bs ++ le n k).length p.2 :: u8o p.1 p.2 (bs ++ le n k) :: K)) := by
  refine fn_enter Tryz.func28 rfl _ Tryz.ntmps28 (by simp) [(0, .pointer (some ⟨b, 0, none⟩)), (1, .int .u64 n), (2, .int .i64 k)] (args_of (by simp)) ?_
  have hmm := min_max8 hk
  refine go_Pw ?_
  refine sc_for (fun g : Wg => [(0, .pointer (some ⟨b, 0, none⟩)), (1, .int .u64 n), (9, .int .i64 k), (10, .int .i64 g.j)]) (fun g => wrb b g.A (bs ++ le n g.j).length g.c :: u8o g.A g.c (bs ++ le n g.j) :: K) (fun g => g.j ≤ k) (fun g => k - g.j) ⟨0, A, c⟩ (by first | exact has_ | (rw [hmm]; exact has_)) (by simp only [le, List.range_zero, List.map_nil, List.append_nil]; exact Sub.refl) (Nat.zero_le _) ?_
  rintro ⟨j, A1, c1⟩ hj
  dsimp only at hj ⊢
  by_cases hlt : j < k
  · refine go_Pw ?_
    rw [IntKind.wrap_u8, show (8 * (j : Int)).toNat = 8 * j from by omega]
    refine sl_build (size := 1) (e := 5) (cells := bytes [n / 2 ^ (8 * j) % 256]) rfl (fun W => by kernel_rfl) rfl (by decide) rfl ?_
    intro gv
    refine sl_call rfl rfl (by kernel_rfl) rfl (by exact sub_) (wRaw (xs := [n / 2 ^ (8 * j) % 256]) (Vw.of_own (A := some ⟨gv, 0, none⟩) (c := 1) (e := 5) .here) (by simp [le_len]; omega)) ?_
    rintro ⟨A2, c2⟩ -
    refine go_Pw ?_
    refine se_round ⟨j + 1, A2, c2⟩ (by exact has_) ?_ hlt (by dsimp only; omega)
    dsimp only
    rw [le_succ, ← List.append_assoc]
    exact sub_
  · refine go_Pw ?_
    obtain rfl : j = k := by omega
    exact se_end0 (A1, c1) trivial rfl rfl (by exact sub_)
set_option maxRecDepth 100000 in
theorem wBytes {K : List Fa} {b c : Nat} {A : Option Addr} {bs : List Int} (hm : bs.length ≤ 70368744177664) :
    Fn Tryz.prog 59 #[.pointer (some ⟨b, 0, none⟩)] (wrb b A bs.length c :: u8o A c bs :: K) (Ret (fun _ : Option Addr × Nat => True) (fun p => .slice p.1 bs.length p.2) (fun p => u8o p.1 p.2 bs :: wrb b A bs.length c :: u8o A c bs :: K)) := by
  refine fn_enter Tryz.func59 rfl _ Tryz.ntmps59 (by simp) [(0, .pointer (some ⟨b, 0, none⟩))] (args_of (by simp)) ?_
  refine go_Pw ?_
  refine sl_build0 (e := 5) (size := 1) rfl (fun W => by kernel_rfl) rfl ?_
  intro g0
  refine go_Pw ?_
  refine sl_app rfl (by exact pick_) rfl (Vw.of_own (c := c) (e := 5) (by exact at_)) (one_bytes _) rfl Tryz.info5 (by decide) (by decide) rfl (by unfold maxLen; omega) (by omega) ?_
  intro A' c'
  rw [Nat.zero_add, List.nil_append]
  refine go_Pw ?_
  exact se_ret1 (A', c') trivial rfl rfl (by exact sub_)

/-! The reference's. -/
end Go.Proofs.YtocaabnbmcpjmaaGreatDoor
/- pack.Reader over facts. -/
namespace Go.Proofs.YtocaabnbmcpjmaaGreatDoor
open Go.RowKit
attribute [local irreducible] Go.Calls Go.Exit.then Go.Exit.inBlock Go.bodyPost Go.Code.wp Go.wpList

abbrev rdb (r : Nat) (A : Option Addr) (n c : Nat) : Fa := blk r 166 [.slice A n c, .bool true]
/-- What is left to read. -/
structure Rd (Z : List Fa) (A : Option Addr) (n c : Nat) (rest : List Int) : Prop where
  vw : Vw Z (fun w => Reads w 1 A n (bytes rest))
  le : n ≤ c
  big : n ≤ 70368744177664
  cb : c ≤ maxLen
  len : rest.length = n
  okb : IsBytes rest
theorem Rd.next {Z : List Fa} {A : Option Addr} {n c : Nat} {rest : List Int} (h : Rd Z A n c rest) {k : Nat} (hk : k ≤ n) : Rd Z (cutA A c k 1) (n - k) (c - k) (rest.drop k) := by
  have hl := h.le
  refine ⟨fun w hw => ?_, by omega, by have := h.big; omega, by have := h.cb; omega, by rw [List.length_drop, h.len], h.okb.drop k⟩
  have h1 := (h.vw w hw).cut (k := k) (cap := c) hk h.le
  have h2 : (bytes rest).drop (k * 1) = bytes (rest.drop k) := by rw [Nat.mul_one]; simp [bytes]
  rw [h2] at h1
  exact h1
structure Rg where
  A : Option Addr
  n : Nat
  c : Nat
abbrev Rg.ok (Z : List Fa) (rest : List Int) (q : Rg) : Prop := Rd Z q.A q.n q.c rest
def stopC (c : Int) : List PanicEntry := [{ v := stopV c, recovered := false }]
theorem rFail {K : List Fa} {r : Nat} {s : Value} {c : Int} (hc : (c == 0) = false) : Fn Tryz.prog 56 #[.pointer (some ⟨r, 0, none⟩), .int .i64 c] (blk r 166 [s, .bool true] :: K) (Pan (fun _ : Unit => True) (fun _ => stopC c) (fun _ => blk r 166 [s, .bool true] :: K)) := by
  unfold Fn
  intro w hw
  have hB := blk_at hw .here
  refine (Fail_stop (by simpa using hB) c hc).mono ?_
  rintro e w' ⟨rfl, rfl⟩
  exact ⟨(), trivial, rfl, hw⟩
theorem bytes_take (xs : List Int) (k : Nat) : (bytes xs).take (k * 1) = bytes (xs.take k) := by rw [Nat.mul_one]; simp [bytes]

theorem nth_Pr {φ : Prop} (h : φ := by (first | rfl | rfl)) : φ := h
theorem mid_Pr {φ : Prop} (h : φ := by (first | exact Mid.all | exact Mid.all | exact Mid.head)) : φ := h
theorem sz_Pr {φ : Prop} (h : φ := by (first | rfl | (first | (simp only [bytes_length, Id.len]; rfl) | (simp only [bytes_length, Id.len]); first | done | fail))) : φ := h
theorem one_Pr {φ : Prop} (h : φ := by (first | assumption | exact one_bytes _ | (simp only [List.mem_cons, List.not_mem_nil, or_false, forall_eq_or_imp, forall_eq]; decide) | exact one_bytes _ | (intro v hv; (repeat (rcases List.mem_cons.1 hv with rfl | hv; rfl)); cases hv))) : φ := h
theorem set_Pr {φ : Prop} (h : φ := by (first | (fail) | ((repeat (first | exact SetAt.here | apply SetAt.there)); first | done | fail))) : φ := h
theorem cl_Pr {φ : Prop} (h : φ := by first | rfl | exact .t | exact .f | exact .t (by omega) | exact .f (by omega) | exact .u | exact .i (by (first | exact .t (by omega) | exact .f (by omega) | exact .u | exact .i (by omega) | exact .v (by omega) | exact .b (by omega) | exact .w | rfl | omega)) | exact .v (by omega) | exact .b (by omega) | exact .q (by omega) | exact .w | exact .b (by exact at_) rfl (by exact nth_Pr) | exact .w (by exact at_) rfl rfl (by exact sz_Pr) | exact .s (by exact at_) (by exact mid_Pr) rfl rfl (by exact sz_Pr) | exact .z rfl rfl ⟨by kernel_rfl⟩ | exact .b rfl rfl ⟨by kernel_rfl⟩ | exact .a rfl rfl ⟨by kernel_rfl⟩ | exact .o rfl | exact .s | exact .n | exact .p rfl | exact .q rfl | exact .c rfl | exact .d rfl | exact .n rfl rfl (by omega) | exact .a rfl rfl (by omega) | exact .p rfl rfl (by omega) (by omega) | exact .y rfl rfl (by omega) (by omega) | exact .o (by exact at_) (by omega) rfl (by exact nth_Pr) | exact .m (by exact at_) (by omega) (by exact mid_Pr) rfl rfl (by exact sz_Pr) | exact .mlen (by exact at_) rfl | exact .t (by exact at_) rfl rfl (by first | exact True.intro | rfl) (by assumption) | exact .f (by exact at_) rfl rfl (by first | exact True.intro | rfl) (by assumption) rfl | exact .t1 (by exact at_) rfl rfl (by first | exact True.intro | rfl) (by assumption) | exact .f1 (by exact at_) rfl rfl (by first | exact True.intro | rfl) (by assumption) rfl | exact .tk (by exact at_) rfl (by assumption) (by assumption) | exact .fk (by exact at_) rfl (by assumption) (by assumption) rfl | exact .tk1 (by exact at_) rfl (by assumption) (by assumption) | exact .fk1 (by exact at_) rfl (by assumption) (by assumption) rfl | exact .r rfl rfl (by omega) (by omega) (by exact nth_Pr) rfl | exact .s rfl (by omega) (by assumption) | exact at_ | assumption | exact .r rfl rfl | exact .h rfl rfl rfl (by omega) | exact .l rfl rfl rfl (by omega) (by omega) | exact .g rfl rfl rfl rfl (by omega) (by omega) | exact .h rfl rfl (toN_ (by omega)) (by omega) | exact .l rfl rfl (toN_ (by omega)) (by omega) (by omega) | exact .g rfl rfl (toN_ (by omega)) (toN_ (by omega)) (by omega) (by omega) | exact .o (by decide) | exact .f (by decide) | exact .n (by omega) (by first | decide | (show _ ≤ ((64 : Nat) : Int); omega)) | (constructor; (repeat (first | exact .t (by omega) | exact .f (by omega) | exact .u | exact .i (by omega) | exact .v (by omega) | exact .b (by omega) | exact .w | rfl | omega)); first | done | fail) | omega | (show _ ≤ ((64 : Nat) : Int); omega)) : φ := h
theorem pv_Pr {φ : Prop} (h : φ := by constructor; (repeat exact cl_Pr); first | done | fail) : φ := h
theorem su_Pr {φ ψ : Prop} (k : ψ) (h : Hide ψ → φ := by (intro k; (first | refine sl_pu (PuI.sep (by exact pv_Pr)) rfl ?_ | refine sl_yes rfl rfl ?_ | refine sl_no rfl rfl rfl ?_ | refine sl_off rfl rfl rfl ?_ | (fail)); exact k.out)) : φ := h ⟨k⟩
theorem sto_Pr {φ ψ : Prop} (k : ψ) (h : Hide ψ → φ := by (intro k; (first | refine sl_store rfl (by exact pick_) rfl rfl (by kernel_rfl) (by exact set_Pr) ?_ | refine sl_store_whole rfl (by exact pick_) rfl (by exact sz_Pr) (by exact sz_Pr) (by exact one_Pr) ?_); exact k.out)) : φ := h ⟨k⟩
theorem go_Pr {φ ψ : Prop} (k : ψ) (h : Hide ψ → φ := by (intro k; (repeat (first | refine su_Pr ?_ | refine so_ ?_ | refine sto_Pr ?_)); exact k.out)) : φ := h ⟨k⟩
set_option maxRecDepth 100000 in
theorem rRaw {K Z : List Fa} {r n c k : Nat} {A : Option Addr} {rest : List Int} (hz : Sub K Z) (h : Rd Z A n c rest) (hk : k ≤ n) :
    Fn Tryz.prog 77 #[.pointer (some ⟨r, 0, none⟩), .int .i64 k] (rdb r A n c :: K) (Ret (fun p : (Option Addr × Nat) × Rg => p.2.ok Z (rest.drop k)) (fun p => .slice p.1.1 k p.1.2) (fun p => own 5 1 p.1.1 k p.1.2 (bytes (rest.take k)) :: rdb r p.2.A p.2.n p.2.c :: K)) := by
  have hle := h.le
  have hbig := h.big
  refine fn_enter Tryz.func77 rfl _ Tryz.ntmps77 (by simp) [(0, .pointer (some ⟨r, 0, none⟩)), (1, .int .i64 k)] (args_of (by simp)) ?_
  refine go_Pr ?_
  refine sl_build0 (e := 5) (size := 1) rfl (fun W => by kernel_rfl) rfl ?_
  intro g0
  refine go_Pr ?_
  refine sl_app rfl (by exact pick_) rfl (Vw.imp (h.vw.mono (L' := _ :: _ :: K) (Sub.skip (Sub.skip hz))) (fun w h => h.take hk)) (by rw [bytes_take]; exact one_bytes _) rfl Tryz.info5 (by decide) (by decide) rfl (by unfold maxLen; omega) (by omega) ?_
  intro A' c'
  rw [Nat.zero_add, List.nil_append, bytes_take]
  refine go_Pr ?_
  exact se_ret1 ((A', c'), ⟨cutA A c k 1, n - k, c - k⟩) (h.next hk) rfl rfl (by exact sub_)
set_option maxRecDepth 100000 in
theorem rUint {K Z : List Fa} {r n c k : Nat} {A : Option Addr} {rest : List Int} (hz : Sub K Z) (h : Rd Z A n c rest) (hk8 : k ≤ 8) (hk : k ≤ n) :
    Fn Tryz.prog 44 #[.pointer (some ⟨r, 0, none⟩), .int .i64 k] (rdb r A n c :: K) (Ret (fun p : Rg => p.ok Z (rest.drop k)) (fun _ => .int .u64 (leV (rest.take k))) (fun p => rdb r p.A p.n p.c :: K)) := by
  have htl : (rest.take k).length = k := by rw [List.length_take, h.len]; omega
  have htb : IsBytes (rest.take k) := h.okb.take k
  have hmm := min_max8 hk8
  refine fn_enter Tryz.func44 rfl _ Tryz.ntmps44 (by simp) [(0, .pointer (some ⟨r, 0, none⟩)), (1, .int .i64 k)] (args_of (by simp)) ?_
  repeat (first | rw [hmm] | (first | refine su_Pr ?_ | refine so_ ?_))
  refine sl_call rfl rfl (by kernel_rfl) rfl Sub.refl (rRaw hz h hk) ?_
  rintro ⟨⟨P, cp⟩, q⟩ hq
  dsimp only at hq ⊢
  generalize rest.take k = xs at *
  refine sl_know (fun w hw => (own_len (e := 5) (size := 1) (A := P) hw .here).2) ?_
  rintro ⟨hc1, hc2⟩
  refine go_Pr ?_
  refine sc_bjoin (fun _ : Unit => [(5, .int .u64 (leV xs))]) (fun _ => own 5 1 P k cp (bytes xs) :: rdb r q.A q.n q.c :: K) (fun _ => True) ?_ ?_
  · refine sc_for (fun j : Nat => [(5, .int .u64 (leV (xs.take j))), (12, .slice P k cp), (13, .int .i64 k), (14, .int .i64 j)]) (fun _ => own 5 1 P k cp (bytes xs) :: rdb r q.A q.n q.c :: K) (fun j => j ≤ k) (fun j => k - j) 0 (by exact has_) (by exact sub_) (Nat.zero_le _) ?_
    intro j hj
    by_cases hlt : j < k
    · have hxl : j < xs.length := by omega
      have hst := or_step htb j hxl (by omega)
      have hx0 := htb _ (List.getElem_mem hxl)
      refine sc_form (A := P) (by exact at_) (by omega) ?_
      rintro g rfl
      refine go_Pr ?_
      refine sl_pu (pu_ldr (v := .int .u8 xs[j]) (Vw.of_own (by exact at_)) (by omega) rfl rfl (by rw [nth_eq]; simp [bytes])) rfl ?_
      generalize xs[j] = x at *
      refine go_Pr ?_
      rw [show (8 * (j : Int)).toNat = 8 * j from by omega, hst]
      refine go_Pr ?_
      exact se_round (j + 1) (by exact has_) (by exact sub_) hlt (by omega)
    · obtain rfl : j = k := by omega
      have e : xs.take j = xs := by rw [← htl, List.take_length]
      rw [e]
      refine go_Pr ?_
      exact se_mid () (by exact has_) (by exact sub_) trivial
  rintro _ -
  refine go_Pr ?_
  exact se_ret1 q hq rfl rfl (by exact sub_)
set_option maxRecDepth 100000 in
theorem rCount {K Z : List Fa} {r n c k : Nat} {A : Option Addr} {rest : List Int} {most : Int} (hz : Sub K Z) (h : Rd Z A n c rest) (hk8 : k ≤ 8) (hk : k ≤ n) (hm : leV (rest.take k) ≤ most) (hmb : most ≤ 9223372036854775807) :
    Fn Tryz.prog 103 #[.pointer (some ⟨r, 0, none⟩), .int .i64 k, .int .u64 most] (rdb r A n c :: K) (Ret (fun p : Rg => p.ok Z (rest.drop k)) (fun _ => .int .i64 (leV (rest.take k))) (fun p => rdb r p.A p.n p.c :: K)) := by
  have h0 := (leV_lt (h.okb.take k)).1
  refine fn_enter Tryz.func103 rfl _ Tryz.ntmps103 (by simp) [(0, .pointer (some ⟨r, 0, none⟩)), (1, .int .i64 k), (2, .int .u64 most)] (args_of (by simp)) ?_
  refine go_Pr ?_
  refine sl_call rfl rfl (by kernel_rfl) rfl Sub.refl (rUint hz h hk8 hk) ?_
  intro q hq
  generalize leV (rest.take k) = v at *
  refine go_Pr ?_
  exact se_ret1 q hq rfl rfl (by exact sub_)
set_option maxRecDepth 100000 in
theorem rCount_range {K Z : List Fa} {r n c k : Nat} {A : Option Addr} {rest : List Int} {most : Int} (hz : Sub K Z) (h : Rd Z A n c rest) (hk8 : k ≤ 8) (hk : k ≤ n) (hm : most < leV (rest.take k)) :
    Fn Tryz.prog 103 #[.pointer (some ⟨r, 0, none⟩), .int .i64 k, .int .u64 most] (rdb r A n c :: K) (Pan (fun _ : Rg => True) (fun _ => stopC 6) (fun p => rdb r p.A p.n p.c :: K)) := by
  refine fn_enter Tryz.func103 rfl _ Tryz.ntmps103 (by simp) [(0, .pointer (some ⟨r, 0, none⟩)), (1, .int .i64 k), (2, .int .u64 most)] (args_of (by simp)) ?_
  refine go_Pr ?_
  refine sl_call rfl rfl (by kernel_rfl) rfl Sub.refl (rUint hz h hk8 hk) ?_
  intro q hq
  generalize leV (rest.take k) = v at *
  refine go_Pr ?_
  refine sl_die rfl rfl (by kernel_rfl) Sub.refl (rFail rfl) ?_
  rintro _ -
  refine go_Pr ?_
  exact se_panic q trivial (by exact sub_)

end Go.Proofs.YtocaabnbmcpjmaaGreatDoor
/- pack.Read over facts: what is asked comes to its end, or stops with an error. -/
namespace Go.Proofs.YtocaabnbmcpjmaaGreatDoor
open Go.RowKit
attribute [local go_sem ↓] Go.wp_at_zero Go.wp_at_succ
end Go.Proofs.YtocaabnbmcpjmaaGreatDoor
/- Maps whose entries own something: each with a key, a value, what it owns. No program is in sight. -/
namespace Go.Proofs.YtocaabnbmcpjmaaGreatDoor
open Go.RowKit Go.MapKept
theorem sub_star0 {L L' : List Fa} (h : Sub L L') : Sub L (star [] :: L') :=
  .free (fun w => by unfold star; exact (Sep.start w).sub Sub.nil) (fun j hj => by unfold star at hj; exact foot_nil hj) h
structure MK (α : Type) where
  key : α → Value
  val : α → Value
  bn : α → Nat
  fa : α → Fa
def MK.ent {α : Type} (M : MK α) (a : α) : MapEntry := ⟨M.key a, M.val a, M.bn a⟩
abbrev kM {α : Type} (M : MK α) (m : Nat) (d : TypeDesc) (fs : List α) (ck : Nat) : Fa := mp m d (fs.map M.ent) ck
abbrev kS {α : Type} (M : MK α) (fs : List α) : Fa := star (fs.map M.fa)
section
variable {P : Program} {ops : Array Oper} {Q : Exit → Act → World → Prop} {n : Nat} {l : Env} {L L' : List Fa} {rest : List Oper} {ty t kt e : TypeId} {pos : String} {after : Array Edge} {x y u : Operand} {m ck : Nat} {d : TypeDesc} {α : Type} {M : MK α} {X Y fs : List α} {f f' : α} {K : List Fa} {k v : Value}
end
end Go.Proofs.YtocaabnbmcpjmaaGreatDoor
/- Maps whose keys are ids (sixteen bytes); a key struck. -/
namespace Go.Proofs.YtocaabnbmcpjmaaGreatDoor
open Go.RowKit Go.MapKept Go.WideMaps
section
variable {P : Program} {ops : Array Oper} {Q : Exit → Act → World → Prop} {n : Nat} {l : Env} {L L' : List Fa} {rest : List Oper} {ty t kt e : TypeId} {pos : String} {after : Array Edge} {x y : Operand} {g ck : Nat} {d : TypeDesc} {A B : List MapEntry}
end
theorem mapM_ex {β : Type} {f : Nat → Option β} : ∀ l : List Nat, (∀ i ∈ l, ∃ y, f i = some y) → ∃ r, l.mapM f = some r
  | [], _ => ⟨[], rfl⟩
  | i :: l, h => by
    obtain ⟨y, hy⟩ := h i (List.mem_cons_self ..)
    obtain ⟨r, hr⟩ := mapM_ex l (fun j hj => h j (List.mem_cons_of_mem _ hj))
    exact ⟨y :: r, by simp [List.mapM_cons, hy, hr]⟩
theorem idKey : ArrKey Tryz.prog 56 5 16 := ⟨Tryz.underlying56, by kernel_rfl, by kernel_rfl, by kernel_rfl⟩
theorem list16m {α : Type} {cs : List α} (h : cs.length = 16) : ∃ a0 a1 a2 a3 a4 a5 a6 a7 a8 a9 a10 a11 a12 a13 a14 a15, cs = [a0, a1, a2, a3, a4, a5, a6, a7, a8, a9, a10, a11, a12, a13, a14, a15] := by
  match cs, h with
  | [a0, a1, a2, a3, a4, a5, a6, a7, a8, a9, a10, a11, a12, a13, a14, a15], _ => exact ⟨a0, a1, a2, a3, a4, a5, a6, a7, a8, a9, a10, a11, a12, a13, a14, a15, rfl⟩
theorem id_formed {l : List Int} (h : l.length = 16) : (Value.agg (bytes l).toArray).formed Tryz.prog 56 = true := by
  obtain ⟨a0, a1, a2, a3, a4, a5, a6, a7, a8, a9, a10, a11, a12, a13, a14, a15, rfl⟩ := list16m h
  kernel_rfl
theorem key_id {l : List Int} (h : l.length = 16) (hb : IsBytes l) : ∃ x, keyOf Tryz.prog 56 (.agg (bytes l).toArray) = some x := by
  have hl : ∃ r, Tryz.prog.keyLits (Tryz.prog.types.size + 1) 56 (Value.agg (bytes l).toArray).cells.toList = some r := by
    obtain ⟨m, hm⟩ : ∃ m, Tryz.prog.types.size = m + 1 := ⟨Tryz.prog.types.size - 1, by kernel_rfl⟩
    rw [hm]
    have hcs : (Value.agg (bytes l).toArray).cells.toList = bytes l := by simp [Value.cells]
    rw [hcs, Program.keyLits.eq_def]
    dsimp only
    rw [Tryz.underlying56]
    dsimp only
    rw [if_pos (by rw [bytes_length, h]; kernel_rfl)]
    obtain ⟨r, hr⟩ := mapM_ex (f := fun i => Tryz.prog.keyLits (m + 1) 5 (((bytes l).drop (i * Tryz.prog.cellsOf 5)).take (Tryz.prog.cellsOf 5))) (List.range 16) (fun i hi => by
      have hi : i < 16 := List.mem_range.1 hi
      rw [idKey.one, Nat.mul_one]
      have hlt : i < l.length := by omega
      have hd : ((bytes l).drop i).take 1 = [.int .u8 l[i]] := by
        rw [List.drop_eq_getElem_cons (by rw [bytes_length]; exact hlt), List.take_succ_cons, List.take_zero]
        simp [bytes]
      rw [hd, Program.keyLits.eq_def]
      dsimp only
      rw [Tryz.underlying5]
      have hw : (Lit.int .u8 l[i]).wf = true := by
        have := hb l[i] (List.getElem_mem hlt)
        simp [Lit.wf, IntKind.min, IntKind.max, IntKind.signed, IntKind.bits]
        omega
      exact ⟨_, by dsimp only; rw [if_pos ⟨rfl, hw⟩]⟩)
    exact ⟨_, by rw [hr]; rfl⟩
  obtain ⟨r, hr⟩ := hl
  refine ⟨_, (?_ : keyOf Tryz.prog 56 (.agg (bytes l).toArray) = some (.string (keyBytes r)))⟩
  unfold keyOf
  rw [Tryz.underlying56]
  dsimp only
  rw [if_pos (by rw [id_formed h, Bool.and_true]; kernel_rfl), hr]
  rfl
theorem KLaw.id {l : List Int} (h : l.length = 16) (hb : IsBytes l) : KLaw Tryz.prog 56 (.array 16 5) (.agg (bytes l).toArray) := by
  obtain ⟨x, hx⟩ := key_id h hb
  refine ⟨.inr ⟨⟨_, rfl⟩, l, rfl, hb, h⟩, fun em w => idKey.law.check w em hx, fun es w hes => ?_, fun w => idKey.law.stays w hx⟩
  have hall : ∀ e ∈ es, ∃ l, keyOf Tryz.prog 56 e.key = some l := fun e he => by
    rcases hes e he with h4 | ⟨_, l', h5, h6, h7⟩
    · exact absurd h4 (by simp [IsKey])
    · rw [h5]
      exact key_id h7 h6
  rcases idKey.law.find w hx es hall with ⟨h1, h2⟩ | ⟨j, e, h1, h2, h3⟩
  · exact .inr ⟨h1, h2⟩
  · exact .inl ⟨j, e, h1, h2, h3⟩
end Go.Proofs.YtocaabnbmcpjmaaGreatDoor
