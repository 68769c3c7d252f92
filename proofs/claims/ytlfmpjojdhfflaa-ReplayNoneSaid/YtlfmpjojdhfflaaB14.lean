/- Several texts of one claim, one behind the other (Sp4, Srt, Rd, Rs). -/
import Derived.Test.YtlfmpjojdhfflaaB05
import Derived.Test.YtlfmpjojdhfflaaB12
import Derived.Shelf.SlSortCmp.NoneTotal
import Derived.Test.YtlfmpjojdhfflaaB13
import Derived.Ground.SlsfProg
set_option linter.unusedVariables false
/- More steps over facts: stores into owned rows, several facts as one, entailments. No program is in sight. -/
namespace Go.Proofs.Ytlfmpjojdhfflaa
open Go.RowKit

/-! One set of facts for another. -/
def Ent_ (L L' : List Fa) : Prop := ∀ w, Sep w L → Sep w L'
section
variable {L L' L1 K G : List Fa} {f g : Fa} {w : World}
theorem Ent_.sub (h : Sub L L') : Ent_ L L' := fun _ hw => hw.sub h
theorem Ent_.trans (h : Ent_ L L1) (h' : Ent_ L1 L') : Ent_ L L' := fun w hw => h' w (h w hw)
theorem star_out : Ent_ (star G :: K) (G ++ K) := fun w hw => by
  have h1 : Sep w G := by
    have := hw.hd
    unfold star at this
    exact this
  refine h1.app hw.tl (fun k hk hk' => ?_)
  obtain ⟨f, hf, hk'⟩ := hk'
  refine hw.apart f hf k ?_ hk'
  unfold star
  exact hk
theorem star_in : Ent_ (G ++ K) (star G :: K) := fun w hw => by
  have h1 : (star G).P w := by
    unfold star
    exact hw.app_l
  exact (sep_one h1).app hw.app_r (fun k hk hk' => by
    rcases foot_cons.1 hk with e | e
    · unfold star at e
      exact hw.app_apart k e hk'
    · exact foot_nil e)
theorem Ent_.tail {f : Fa} (h : Ent_ L L') (hf : ∀ k, foot L' k → foot L k) : Ent_ (f :: L) (f :: L') := fun w hw =>
  (sep_one hw.hd).app (h w hw.tl) (fun k hk hk' => by
    rcases foot_cons.1 hk with e | e
    · obtain ⟨y, hy, hky⟩ := hf k hk'
      exact hw.apart y hy k e hky
    · exact foot_nil e)
/-- The same facts in another order, or fewer. -/
theorem Sep.perm_tail {A B : List Fa} (h : Sep w (A ++ K)) (hB : Sep w A → Sep w B) (hf : ∀ k, foot B k → foot A k) : Sep w (B ++ K) :=
  (hB h.app_l).app h.app_r (fun k hk hk' => h.app_apart k (hf k hk) hk')
section
variable {P : Program} {ops : Array Oper} {Q : Exit → Act → World → Prop} {n : Nat} {l : Env} {rest : List Oper} {S : World → Prop} {need : Nat → Bool} {fuel : Nat} {listed : Array Bool}
theorem sl_ent (h : Ent_ L L') (hk : SL P ops Q rest n l L') : SL P ops Q rest n l L := sl_of fun w hw => hk.to (h w hw)
theorem sc_ent {c : Code} (h : Ent_ L L') (hk : SC P c Q n l L') : SC P c Q n l L := by
  unfold SC at hk ⊢
  exact fun w hw => hk w (h w hw)
theorem se_ent {e : Exit} (h : Ent_ L L') (hk : SE Q e n l L') : SE Q e n l L := by
  unfold SE at hk ⊢
  exact fun w hw => hk w (h w hw)
theorem sd_ent (h : Ent_ L L') (hk : SD P ops Q S need fuel listed n l L') : SD P ops Q S need fuel listed n l L := sd_of fun w hw => hk.to (h w hw)
theorem fn_ent {f : FuncId} {args : Array Value} {R : Ending → World → Prop} (h : Ent_ L L') (hk : Fn P f args L' R) : Fn P f args L R := by
  unfold Fn at hk ⊢
  exact fun w hw => hk w (h w hw)
/-- A loop in its block, and what stands behind it. -/
theorem sc_bjoin {α : Type} {x y : Code} {id : Nat} (E : α → Env) (H : α → List Fa) (R : α → Prop) (hx : SC P x (Exit.inBlock id (Exit.then (fun a w => ∃ p : α, Sl n (E p) a ∧ R p ∧ Sep w (H p)) Q)) n l L) (hy : ∀ p, R p → SC P y Q n (E p) (H p)) : SC P x (Exit.inBlock id (Exit.then (fun a w => y.wp P Q a w) Q)) n l L := by
  unfold SC WC at hx hy ⊢
  intro w hw a hs
  have hm : ∀ e a w, Exit.then (fun a w => ∃ p : α, Sl n (E p) a ∧ R p ∧ Sep w (H p)) Q e a w → Exit.then (fun a w => y.wp P Q a w) Q e a w := by
    intro e a w h
    cases e
    · obtain ⟨p, h1, h2, h3⟩ := h
      exact hy p h2 w h3 a h1
    all_goals exact h
  refine Code.wp_mono (fun e a w h => ?_) (hx w hw a hs)
  cases e with
  | exit id' =>
    by_cases hc : id' = id
    · have h' : Exit.inBlock id (Exit.then (fun a w => ∃ p : α, Sl n (E p) a ∧ R p ∧ Sep w (H p)) Q) (.exit id') a w = Exit.then (fun a w => ∃ p : α, Sl n (E p) a ∧ R p ∧ Sep w (H p)) Q .normal a w := if_pos hc
      have h2 : Exit.inBlock id (Exit.then (fun a w => y.wp P Q a w) Q) (.exit id') a w = Exit.then (fun a w => y.wp P Q a w) Q .normal a w := if_pos hc
      rw [h2]
      rw [h'] at h
      exact hm _ _ _ h
    · have h' : Exit.inBlock id (Exit.then (fun a w => ∃ p : α, Sl n (E p) a ∧ R p ∧ Sep w (H p)) Q) (.exit id') a w = Exit.then (fun a w => ∃ p : α, Sl n (E p) a ∧ R p ∧ Sep w (H p)) Q (.exit id') a w := if_neg hc
      have h2 : Exit.inBlock id (Exit.then (fun a w => y.wp P Q a w) Q) (.exit id') a w = Exit.then (fun a w => y.wp P Q a w) Q (.exit id') a w := if_neg hc
      rw [h2]
      rw [h'] at h
      exact hm _ _ _ h
  | normal => exact hm .normal a w h
  | goto => exact hm (.goto _) a w h
  | ret => exact hm .ret a w h
  | panic => exact hm (.panic _) a w h
  | outgrown => exact hm .outgrown a w h
theorem Fn.retain {f : FuncId} {args : Array Value} {α : Type} {φ : α → Prop} {v : α → Value} {H H' : α → List Fa} (h : Fn P f args L (Ret φ v H)) (he : ∀ x, φ x → Ent_ (H x) (H' x)) : Fn P f args L (Ret φ v H') :=
  h.mono fun _ w' ⟨x, h1, h2, h3⟩ => ⟨x, h1, h2, he x h1 w' h3⟩
/-- Another way to say what is answered. -/
theorem Fn.say {f : FuncId} {args : Array Value} {α β : Type} {φ : α → Prop} {v : α → Value} {H : α → List Fa} {φ' : β → Prop} {v' : β → Value} {H' : β → List Fa} (h : Fn P f args L (Ret φ v H)) (he : ∀ x w, φ x → Sep w (H x) → ∃ y, φ' y ∧ v' y = v x ∧ Sep w (H' y)) : Fn P f args L (Ret φ' v' H') :=
  h.mono fun _ w' ⟨x, h1, h2, h3⟩ => by
    obtain ⟨y, e1, e2, e3⟩ := he x w' h1 h3
    exact ⟨y, e1, by rw [e2, h2], e3⟩
/-- Out of a contract of the older kind that leaves all blocks. -/
theorem Fn.quiet {f : FuncId} {args : Array Value} {v : Value} (h : ∀ w, Sep w L → Calls P f args w fun e w' => e = .returned v ∧ Fr Nil w w') : Fn P f args L (Ret (fun _ : Unit => True) (fun _ => v) (fun _ => L)) := by
  unfold Fn
  exact fun w hw => (h w hw).mono fun e w' ⟨h1, h2⟩ => ⟨(), trivial, h1, hw.nil h2⟩
end
end

/-! Stores into owned rows. -/
section
variable {P : Program} {ops : Array Oper} {Q : Exit → Act → World → Prop} {n : Nat} {l : Env} {L L' : List Fa} {rest : List Oper} {ty t e : TypeId} {pos : String} {after : Array Edge} {x y : Operand} {g i c size k : Nat} {xs cl : List Value} {v : Value} {w : World}
theorem own_open (h : w.ownsRow 0 e size (.slice (some ⟨g, 0, none⟩) k c) k xs) : ∃ cur, Blk w g e cur ∧ k ≤ c ∧ c ≤ maxLen ∧ cur.size = c * size ∧ cur.toList.take (k * size) = xs ∧ xs.length = k * size := by
  obtain ⟨hxl, h⟩ := h
  rcases h with ⟨h, _⟩ | ⟨g', cap, cur, hv, hb, hh, hkc, hcm, hcs, htk⟩
  · cases h
  · cases hv
    exact ⟨cur, hh, hkc, hcm, hcs, htk, hxl⟩
theorem own_close {cur : Array Value} (hB : Blk w g e cur) (hkc : k ≤ c) (hcm : c ≤ maxLen) (hcs : cur.size = c * size) (htk : cur.toList.take (k * size) = xs) (hxl : xs.length = k * size) : w.ownsRow 0 e size (.slice (some ⟨g, 0, none⟩) k c) k xs :=
  ⟨hxl, .inr ⟨g, c, cur, rfl, Nat.zero_le _, hB, hkc, hcm, hcs, htk⟩⟩
theorem own_mk (h : w.ownsRow 0 e size (.slice (some ⟨g, 0, none⟩) k c) k xs) : (own e size (some ⟨g, 0, none⟩) k c xs).P w := by
  unfold own
  exact h
theorem own_F : (own e size (some ⟨g, 0, none⟩) k c xs).F = fun j => some g = some j := by
  unfold own
  rfl
theorem sep_set (hw : Sep w L) (hp : Pick (own e size (some ⟨g, 0, none⟩) k c xs) L L') (hi : i < k * size) : ∃ cur : Array Value, Blk w g e cur ∧ i < cur.size ∧ ∀ w', Fr (fun j => j = g) w w' → Blk w' g e (cur.setIfInBounds i v) → Sep w' (own e size (some ⟨g, 0, none⟩) k c (xs.set i v) :: L') := by
  have h2 := hw.pick hp
  have hO : w.ownsRow 0 e size (.slice (some ⟨g, 0, none⟩) k c) k xs := by
    have := h2.hd
    unfold own at this
    exact this
  obtain ⟨cur, hB, hkc, hcm, hcs, htk, hxl⟩ := own_open hO
  have hks : k * size ≤ c * size := Nat.mul_le_mul_right _ hkc
  refine ⟨cur, hB, by omega, fun w' hF hB' => h2.step hF (fun j _ e => by rw [own_F]; exact congrArg some e.symm) (own_mk (own_close hB' hkc hcm (by simpa using hcs) ?_ (by simpa using hxl))) (fun j hj => .inl (by rw [own_F] at hj ⊢; exact hj))⟩
  rw [← htk, Array.toList_setIfInBounds, List.take_set]
theorem sl_sto (hx : ev l x = some (.pointer (some ⟨g, i, none⟩))) (hp : Pick (own e size (some ⟨g, 0, none⟩) k c xs) L L') (hy : ev l y = some v) (h1 : v.oneCell' = true) (ht : szOf P t = some 1) (hi : i < k * size)
    (h : SL P ops Q rest n l (own e size (some ⟨g, 0, none⟩) k c (xs.set i v) :: L')) : SL P ops Q (⟨none, .store t x y, ty, pos, after, none⟩ :: rest) n l L := sl_of fun w hw => by
  obtain ⟨cur, hB, hi', hk⟩ := sep_set (v := v) hw hp hi
  exact wl_store hx hy h1 ht hB hi' (fun w' hF _ hB' => h.to (hk w' hF hB'))
theorem sd_sto (j : Nat) {S : World → Prop} {need : Nat → Bool} {fuel : Nat} {listed : Array Bool} (hr : Region.ready .any ops listed = [j]) (ho : ops[j]? = some ⟨none, .store t x y, ty, pos, after, none⟩) (hx : ev l x = some (.pointer (some ⟨g, i, none⟩))) (hp : Pick (own e size (some ⟨g, 0, none⟩) k c xs) L L') (hy : ev l y = some v) (h1 : v.oneCell' = true) (ht : szOf P t = some 1) (hi : i < k * size)
    (hS : need j = true → ∀ w, Sep w (own e size (some ⟨g, 0, none⟩) k c (xs.set i v) :: L') → S w) (h : SD P ops Q S need fuel (listed.setIfInBounds j true) n l (own e size (some ⟨g, 0, none⟩) k c (xs.set i v) :: L')) : SD P ops Q S need (fuel + 1) listed n l L := sd_of fun w hw => by
  obtain ⟨cur, hB, hi', hk⟩ := sep_set (v := v) hw hp hi
  have h3 := hk (w.setCell ⟨g, i, none⟩ v) ((Fr.refl (fun k => k = g) w).setCell (.inr rfl) _) (hB.set_ i v)
  exact wd_skip j hr ho (rs_store hx hy h1 ht hB hi') (fun e => hS e _ h3) (h.to h3)
/-- A struct or an array, stored into a row. -/
theorem sl_sto_mid (hx : ev l x = some (.pointer (some ⟨g, i, none⟩))) (hp : Pick (own e size (some ⟨g, 0, none⟩) k c xs) L L') (hy : ev l y = some (.agg cl.toArray)) (hsz : szOf P t = some cl.length) (hi : i + cl.length ≤ k * size) (h1 : ∀ v ∈ cl, v.oneCell' = true)
    (h : SL P ops Q rest n l (own e size (some ⟨g, 0, none⟩) k c (xs.take i ++ cl ++ xs.drop (i + cl.length)) :: L')) : SL P ops Q (⟨none, .store t x y, ty, pos, after, none⟩ :: rest) n l L := sl_of fun w hw => WL.mk fun a hs => by
  have h2 := hw.pick hp
  have hO : w.ownsRow 0 e size (.slice (some ⟨g, 0, none⟩) k c) k xs := by
    have := h2.hd
    unfold own at this
    exact this
  obtain ⟨cur, hB, hkc, hcm, hcs, htk, hxl⟩ := own_open hO
  have hks : k * size ≤ c * size := Nat.mul_le_mul_right _ hkc
  have hcl : cur.toList.length = c * size := by simpa using hcs
  have hB2 := setCells_mid cl i w cur.toList (by simpa using hB) (by omega)
  refine wpList_store_mid rfl t x y rfl g i cl.toArray (hs.ev hx) (hs.ev hy) (fun j hj => ⟨by rw [hB.cell, Array.getElem?_eq_getElem (by simp at hj ⊢; omega)]; rfl, hB.frozen _⟩) (by rw [← szOf_eq]; simpa using hsz) (all_oneCell_toArray h1) ?_
  refine (h.to (h2.step (setCells_fr _ _ _) (fun j _ e => by rw [own_F]; exact congrArg some e.symm) (own_mk (own_close (cur := (cur.toList.take i ++ cl ++ cur.toList.drop (i + cl.length)).toArray) (by simpa using hB2) hkc hcm (by simp; omega) ?_ (by simp; omega))) (fun j hj => .inl (by rw [own_F] at hj ⊢; exact hj)))).get hs
  have e1 : cur.toList.take i = xs.take i := by rw [← htk, List.take_take, Nat.min_eq_left (by omega)]
  have e2 : xs.drop (i + cl.length) = (cur.toList.drop (i + cl.length)).take (k * size - (i + cl.length)) := by rw [← htk, List.drop_take]
  rw [List.toList_toArray, e2, ← e1, List.take_append, List.take_of_length_le (by simp; omega)]
  congr 1
  simp
  congr 1
  omega
end
section
variable {X : Type} {C : X → List Value} {sz : Nat}
theorem rows_set (hC : ∀ s, (C s).length = sz) : ∀ {ss : List X} {j i : Nat} {s s' : X} {v : Value}, ss[j]? = some s → (C s).set i v = C s' → i < sz → (rows C ss).set (j * sz + i) v = rows C (ss.set j s')
  | [], j, i, s, s', v, h, _, _ => by simp at h
  | a :: r, 0, i, s, s', v, h, he, hi => by
    simp at h
    subst h
    rw [rows_cons, List.set_cons_zero, rows_cons, Nat.zero_mul, Nat.zero_add, List.set_append_left _ _ (by rw [hC]; exact hi), he]
  | a :: r, j + 1, i, s, s', v, h, he, hi => by
    rw [rows_cons, List.set_cons_succ, rows_cons, ← rows_set hC (ss := r) (by simpa using h) he hi, List.set_append_right _ _ (by rw [hC, Nat.succ_mul]; omega), hC]
    congr 2
    rw [Nat.succ_mul]
    omega
theorem rows_put (hC : ∀ s, (C s).length = sz) : ∀ {ss : List X} {j : Nat} (s' : X), j < ss.length → (rows C ss).take (j * sz) ++ C s' ++ (rows C ss).drop (j * sz + (C s').length) = rows C (ss.set j s')
  | ss, j, s', h => by
    rw [hC, show j * sz + sz = (j + 1) * sz from by rw [Nat.succ_mul], rows_take hC, rows_drop hC, ← rows_one (C := C) s', ← rows_app, ← rows_app, List.set_eq_take_append_cons_drop, if_pos h]
    simp
end
/-! copy into a block. -/
section
variable {P : Program} {ops : Array Oper} {Q : Exit → Act → World → Prop} {n : Nat} {l : Env} {L L' : List Fa} {rest : List Oper} {d : Tmp} {dst : Option Tmp} {ty t t' t0 e : TypeId} {pos : String} {after : Array Edge} {x y : Operand} {g o dLen dCap sLen sCap size kk : Nat} {a : Addr} {cs cs0 : List Value}
theorem sep_copy_blk {w : World} (hw : Sep w L) (hp : Pick (blk g t0 cs0) L L') (hsz : szOf P e = some size) (ht : P.underlying t = some (.slice e)) (hk : min sLen dLen = kk) (hn : cs.length = kk * size) (hr : ∀ w, Sep w L → ∀ j v, cs[j]? = some v → w.cell? (a.add j) = some v) (hfit : o + cs.length ≤ cs0.length) (h1 : ∀ v ∈ cs, v.oneCell' = true) :
    ∃ w', (Builtin.copy_ #[t, t'] ty #[.slice (some ⟨g, o, none⟩) dLen dCap, .slice (some a) sLen sCap]).run P w = .ok (goInt kk) w' ∧ Sep w' (blk g t0 (cs0.take o ++ cs ++ cs0.drop (o + cs.length)) :: L') := by
  subst hk
  have h2 := hw.pick hp
  have hB : Blk w g t0 cs0.toArray := by
    have := h2.hd
    unfold blk at this
    exact this
  refine ⟨_, run_copy_rows w t t' ty e g o dLen dCap a sLen sCap size cs0.toArray t0 cs ht hsz hB hn (hr w hw) (by simpa using hfit) h1, ?_⟩
  refine h2.step (setRow_fr w g _) (fun j _ e => by unfold blk; exact e) ?_ (fun j hj => .inl (by unfold blk at hj ⊢; exact hj))
  have hP := setRow_heap w g cs0.toArray (cs0.take o ++ cs ++ cs0.drop (o + cs.length)).toArray t0 (0, 0) hB
  unfold blk
  exact hP
theorem sl_copy_blk (hx : ev l x = some (.slice (some ⟨g, o, none⟩) dLen dCap)) (hp : Pick (blk g t0 cs0) L L') (hy : ev l y = some (.slice (some a) sLen sCap)) (hsz : szOf P e = some size) (ht : P.underlying t = some (.slice e)) (hk : min sLen dLen = kk) (hn : cs.length = kk * size)
    (hr : ∀ w, Sep w L → ∀ j v, cs[j]? = some v → w.cell? (a.add j) = some v) (hfit : o + cs.length ≤ cs0.length) (h1 : ∀ v ∈ cs, v.oneCell' = true) (hd : (match dst with | some d => Nat.blt d n | none => true) = true)
    (h : SL P ops Q rest n (match dst with | some d => (d, goInt kk) :: l | none => l) (blk g t0 (cs0.take o ++ cs ++ cs0.drop (o + cs.length)) :: L')) :
    SL P ops Q (⟨dst, .call { callee := .builtin .copy, args := #[x, y], argTypes := #[t, t'] }, ty, pos, after, none⟩ :: rest) n l L := sl_of fun w hw => WL.mk fun a' hs => by
  obtain ⟨w', hr', hw'⟩ := sep_copy_blk (P := P) (ty := ty) (t' := t') (dCap := dCap) (sCap := sCap) hw hp hsz ht hk hn hr hfit h1
  refine wpList_plain rfl fun K hK => ?_
  unfold Oper.wp
  simp only [execOp, resolve, List.map_toArray, List.map_cons, List.map_nil, hs.ev hx, hs.ev hy]
  simp only [invoke, builtin, Sem.run_bind, Sem.run_pure, Result.andThen_ok, hr']
  cases dst with
  | none => exact hK _ _ ((h.to hw').get hs)
  | some d => exact hK _ _ ((h.to hw').get (hs.put hd _))
theorem sd_copy_blk {S : World → Prop} {need : Nat → Bool} {fuel : Nat} {listed : Array Bool} (j : Nat) (hrd : Region.ready .any ops listed = [j]) (ho : ops[j]? = some ⟨some d, .call { callee := .builtin .copy, args := #[x, y], argTypes := #[t, t'] }, ty, pos, after, none⟩)
    (hx : ev l x = some (.slice (some ⟨g, o, none⟩) dLen dCap)) (hp : Pick (blk g t0 cs0) L L') (hy : ev l y = some (.slice (some a) sLen sCap)) (hsz : szOf P e = some size) (ht : P.underlying t = some (.slice e)) (hk : min sLen dLen = kk) (hn : cs.length = kk * size)
    (hr : ∀ w, Sep w L → ∀ j v, cs[j]? = some v → w.cell? (a.add j) = some v) (hfit : o + cs.length ≤ cs0.length) (h1 : ∀ v ∈ cs, v.oneCell' = true) (hd : Nat.blt d n = true) (hS : ∀ w, Sep w (blk g t0 (cs0.take o ++ cs ++ cs0.drop (o + cs.length)) :: L') → S w)
    (h : SD P ops Q S need fuel (listed.setIfInBounds j true) n ((d, goInt kk) :: l) (blk g t0 (cs0.take o ++ cs ++ cs0.drop (o + cs.length)) :: L')) : SD P ops Q S need (fuel + 1) listed n l L := sd_of fun w hw => by
  obtain ⟨w', hr', hw'⟩ := sep_copy_blk (P := P) (ty := ty) (t' := t') (dCap := dCap) (sCap := sCap) hw hp hsz ht hk hn hr hfit h1
  refine wd_run j hrd ho (v := goInt kk) (w' := w') ?_ hd (fun _ => hS w' hw') (h.to hw')
  unfold Ru
  intro a' _ _ _ _ hs
  simp only [execOp, resolve, List.map_toArray, List.map_cons, List.map_nil, hs.ev hx, hs.ev hy]
  simp only [invoke, builtin, Sem.run_bind, Sem.run_pure, Result.andThen_ok, hr']
/-- A call that panics, where the order is drawn. -/
theorem sd_die (i : Nat) {S : World → Prop} {need : Nat → Bool} {fuel : Nat} {listed : Array Bool} {f : FuncId} {cap : List Value} {zs : List Operand} {vs : List Value} {ats : Array TypeId} {L1 : List Fa} {α : Type} {φ : α → Prop} {cc : α → List PanicEntry} {H : α → List Fa} (hr : Region.ready .any ops listed = [i]) (ho : ops[i]? = some ⟨some d, .call { callee := .value x, args := zs.toArray, argTypes := ats }, ty, pos, after, none⟩)
    (hx : ev l x = some (.func (.func f) #[] cap.toArray)) (hv : evs l zs = some vs) (hf : callable P f = true) (hd : Nat.blt d n = true) (hs : Sub L L1) (hc : Fn P f (vs ++ cap).toArray L1 (Pan φ cc H))
    (h : ∀ a, φ a → SE Q (.panic (cc a)) n l (H a)) : SD P ops Q S need (fuel + 1) listed n l L := sd_of fun w hw => by
  unfold Fn at hc
  unfold SE at h
  exact wd_die i hr ho hx hv hf (hc w (hw.sub hs)) (fun e w' ⟨a, h1, h2, h3⟩ => ⟨_, h2, h a h1 w' h3⟩)
end
section
variable {P : Program} {ops : Array Oper} {Q : Exit → Act → World → Prop} {n : Nat} {l : Env} {L : List Fa} {S : World → Prop} {need : Nat → Bool} {fuel : Nat} {listed : Array Bool} {e t' : TypeId} {size m c g : Nat} {A : Option Addr} {xs : List Value}
theorem sd_know {φ : Prop} (h : ∀ w, Sep w L → φ) (hk : φ → SD P ops Q S need fuel listed n l L) : SD P ops Q S need fuel listed n l L := sd_of fun w hw => (hk (h w hw)).to hw
theorem own_form_at (hp : At (own e size A m c xs) L) (hm : 0 < m) : ∀ w, Sep w L → ∃ g, A = some ⟨g, 0, none⟩ := fun w hw => by
  obtain ⟨g, cap, hv, _, _⟩ := World.ownsRow.form (own_at hw hp) hm
  exact ⟨g, by injection hv⟩
theorem results_cell1 {fn : Func} {p : Tmp} {ty : TypeId} (h : fn.results = #[.cell p ty]) (tmps : Array Value) (P : Program) (w : World) :
    (results fn tmps).run P w = ((asAddr (tmps.getD p undef)).run P w).andThen fun a w₁ => (loadVar ty a).run P w₁ := by
  simp only [results, h]
  simp [Sem.run_bind, Result.andThen]
/-- A result that is a variable in memory. -/
theorem se_ret_c {fn : Func} {α : Type} {φ : α → Prop} {vv : α → Value} {H : α → List Fa} {tp : Nat} {ty : TypeId} {td : TypeDesc} {csx : List Value} (x : α) (hφ : φ x) (hr : fn.results = #[.cell tp ty]) (hv : lk l tp = some (.pointer (some ⟨g, 0, none⟩))) (hb : At (blk g t' csx) L) (hu : P.underlying ty = some td) (hd' : (match td with | .struct _ | .array _ _ => true | _ => false) = true) (hi : szOf P ty = some csx.length)
    (he : vv x = .agg csx.toArray) (hs : Sub L (H x)) : SE (bodyPost P fn (Ret φ vv H)) .ret n l L := se_of fun w hw => WE.mk fun a hs' => by
  refine bodyPost_ret (v := vv x) ?_ hs'.df ⟨x, hφ, rfl, hw.sub hs⟩
  rw [results_cell1 hr, hs'.get hv, he]
  have hB : Blk w g t' csx.toArray := blk_at hw hb
  have hl := run_loadVar_at (P := P) w ⟨g, 0, none⟩ ty csx td (fun j v hj => by
    rw [add_none, Nat.zero_add, hB.cell]
    simpa using hj) hu hd' (by rw [← szOf_eq]; exact hi)
  simp [asAddr, hl]
end
section
variable {P : Program} {ops : Array Oper} {Q : Exit → Act → World → Prop} {n : Nat} {l : Env} {L L' : List Fa} {rest : List Oper} {ty t e : TypeId} {pos : String} {after : Array Edge} {x y : Operand} {g i c size k : Nat} {xs cl : List Value} {v : Value} {w : World} {p : Addr}
theorem sl_sto2 (hx : ev l x = some (.pointer (some p))) (hpe : p = ⟨g, i, none⟩) (hp : Pick (own e size (some ⟨g, 0, none⟩) k c xs) L L') (hy : ev l y = some v) (h1 : v.oneCell' = true) (ht : szOf P t = some 1) (hi : i < k * size)
    (h : SL P ops Q rest n l (own e size (some ⟨g, 0, none⟩) k c (xs.set i v) :: L')) : SL P ops Q (⟨none, .store t x y, ty, pos, after, none⟩ :: rest) n l L := sl_sto (hpe ▸ hx) hp hy h1 ht hi h
theorem sd_sto2 (j : Nat) {S : World → Prop} {need : Nat → Bool} {fuel : Nat} {listed : Array Bool} (hr : Region.ready .any ops listed = [j]) (ho : ops[j]? = some ⟨none, .store t x y, ty, pos, after, none⟩) (hx : ev l x = some (.pointer (some p))) (hpe : p = ⟨g, i, none⟩) (hp : Pick (own e size (some ⟨g, 0, none⟩) k c xs) L L') (hy : ev l y = some v) (h1 : v.oneCell' = true) (ht : szOf P t = some 1) (hi : i < k * size)
    (hS : need j = true → ∀ w, Sep w (own e size (some ⟨g, 0, none⟩) k c (xs.set i v) :: L') → S w) (h : SD P ops Q S need fuel (listed.setIfInBounds j true) n l (own e size (some ⟨g, 0, none⟩) k c (xs.set i v) :: L')) : SD P ops Q S need (fuel + 1) listed n l L := sd_sto j hr ho (hpe ▸ hx) hp hy h1 ht hi hS h
/-- A cell of an owned row, where all of some facts hold. -/
theorem pu_ldoA {L0 : List Fa} {o : Nat} (hb : At (own e size (some ⟨g, 0, none⟩) k c xs) L0) (hk : 0 < k) (hx : ev l x = some (.pointer (some p))) (hpe : p = ⟨g, o, none⟩) (ht : plainT P t = true) (hi : nth xs o = some v) : Pu P (fun W => AllP W L0) n l (.load t x) ty v :=
  pu_load (hpe ▸ hx) ht (fun W hW => by
    have hO : W.ownsRow 0 e size (.slice (some ⟨g, 0, none⟩) k c) k xs := by
      have := hW.at hb
      unfold own at this
      exact this
    obtain ⟨ad, h1, h2⟩ := (Reads.of_own hO).2 hk
    cases h1
    have h3 := h2 o v (by rw [← nth_eq]; exact hi)
    rwa [add_none, Nat.zero_add] at h3)
theorem pu_ldo {o : Nat} (hb : At (own e size (some ⟨g, 0, none⟩) k c xs) L) (hk : 0 < k) (hx : ev l x = some (.pointer (some p))) (hpe : p = ⟨g, o, none⟩) (ht : plainT P t = true) (hi : nth xs o = some v) : Pu P (In L) n l (.load t x) ty v :=
  pu_load (hpe ▸ hx) ht (fun W hW => by
    obtain ⟨ad, h1, h2⟩ := (Reads.of_own (own_at hW hb)).2 hk
    cases h1
    have h3 := h2 o v (by rw [← nth_eq]; exact hi)
    rwa [add_none, Nat.zero_add] at h3)
end
theorem at2 (g a b : Nat) : ((⟨g, 0, none⟩ : Addr).add a).add b = ⟨g, a + b, none⟩ := by rw [add_none, add_none, Nat.zero_add]
theorem at1 (g a : Nat) : (⟨g, 0, none⟩ : Addr).add a = ⟨g, a, none⟩ := by rw [add_none, Nat.zero_add]
theorem map_step {X : Type} (f : X → X) {l : List X} {j : Nat} {x : X} (h : l[j]? = some x) : ((l.take j).map f ++ l.drop j).set j (f x) = (l.take (j + 1)).map f ++ l.drop (j + 1) := by
  obtain ⟨h1, h2⟩ := List.getElem?_eq_some_iff.1 h
  have hl : ((l.take j).map f).length = j := by simp; omega
  rw [List.drop_eq_getElem_cons h1, List.set_append_right _ _ (by omega), hl, Nat.sub_self, List.set_cons_zero, List.take_succ_eq_append_getElem h1, List.map_append, List.append_assoc, h2]
  rfl
theorem map_at {X : Type} (f : X → X) {l : List X} {j : Nat} {x : X} (h : l[j]? = some x) : ((l.take j).map f ++ l.drop j)[j]? = some x := by
  obtain ⟨h1, h2⟩ := List.getElem?_eq_some_iff.1 h
  rw [List.getElem?_append_right (by simp; omega)]
  simp
  rw [show j - min j l.length = 0 from by omega, Nat.add_zero, h]
end Go.Proofs.Ytlfmpjojdhfflaa
/- The library's sort, by the shelf's contract, over facts. No program is in sight. -/
namespace Go.Proofs.Ytlfmpjojdhfflaa
open Go.RowKit Go.Sort Go.Shelf
section
variable {α : Type} [Inhabited α] {enc : α → Value} {w : World} {g n c size : Nat} {e : TypeId} {d : Array α} {P : Program} {f : FuncId} {args : Array Value} {K : List Fa}
theorem holds_blk {cur : Array Value} (hb : Blk w g e cur) (ht : cur.toList.take d.size = d.toList.map enc) : Holds enc w g 0 d := by
  intro j hj
  unfold Blk at hb
  refine ⟨?_, by simp [World.frozen?, hb]⟩
  have h1 : (cur.toList.take d.size)[j]? = (d.toList.map enc)[j]? := by rw [ht]
  rw [List.getElem?_take_of_lt hj] at h1
  simp only [World.cell?, hb, Nat.zero_add]
  simp only [Option.isSome_none, Bool.false_eq_true, if_false]
  rw [← Array.getElem?_toList, h1]
  simp [hj]
theorem blk_sorted {cur : Array Value} {m : Nat} {os : Array Obj} (d : Array α) (hb : Blk w g e cur) : Blk (sortWorld enc w g 0 m d os) g e (putCells enc 0 d cur) := by
  unfold Blk at hb
  have hg : g < w.heap.size := (Array.getElem?_eq_some_iff.1 hb).1
  unfold Blk sortWorld
  rw [heap_grow_old _ _ (by simpa [putRow, mapBlock, Sort.ahead] using hg)]
  simp [putRow, mapBlock, Sort.ahead, Array.getElem?_modify, hb, onCells]
theorem fr_sorted {m : Nat} {os : Array Obj} (d : Array α) : Fr (fun j => j = g) w (sortWorld enc w g 0 m d os) := by
  unfold sortWorld
  refine ⟨rfl, rfl, rfl, by simp [putRow, mapBlock, Sort.ahead], fun k hk hne => ?_⟩
  rw [heap_grow_old _ _ (by simpa [putRow, mapBlock, Sort.ahead] using hk)]
  have : g ≠ k := fun e => hne e.symm
  simp [putRow, mapBlock, Sort.ahead, Array.getElem?_modify, this]
theorem take_put (cur : Array Value) (d : Array α) (h : d.size ≤ cur.size) : (putCells enc 0 d cur).toList.take d.size = d.toList.map enc := by
  apply List.ext_getElem?
  intro j
  by_cases hj : j < d.size
  · rw [List.getElem?_take_of_lt hj, Array.getElem?_toList]
    simp [putCells, hj, show j < cur.size by omega]
  · rw [List.getElem?_take_eq_none (by omega), List.getElem?_eq_none (by simp; omega)]
theorem sep_sorted (hw : Sep w (own e size (some ⟨g, 0, none⟩) n c (d.toList.map enc) :: K)) : Holds enc w g 0 d ∧ g < w.heap.size ∧ d.size = n * size ∧ n ≤ c ∧ ∀ (d' : Array α) m os, d'.size = d.size → Sep (sortWorld enc w g 0 m d' os) (own e size (some ⟨g, 0, none⟩) n c (d'.toList.map enc) :: K) := by
  have hO : w.ownsRow 0 e size (.slice (some ⟨g, 0, none⟩) n c) n (d.toList.map enc) := by
    have := hw.hd
    unfold own at this
    exact this
  obtain ⟨cur, hB, hkc, hcm, hcs, htk, hxl⟩ := own_open hO
  have hn : d.size = n * size := by simpa using hxl
  have hle : n * size ≤ c * size := Nat.mul_le_mul_right _ hkc
  refine ⟨holds_blk hB (by rw [hn]; exact htk), hB.lt, hn, hkc, fun d' m os hs => ?_⟩
  refine hw.step (fr_sorted d') (fun j _ e => by rw [own_F]; exact congrArg some e.symm) (own_mk (own_close (blk_sorted d' hB) hkc hcm (by simp [putCells, hcs]) ?_ (by simp [hs, hn]))) (fun j hj => .inl (by rw [own_F] at hj ⊢; exact hj))
  rw [← hn, ← hs]
  exact take_put _ _ (by omega)
theorem fn_sort1 {Φ : Array α → Prop} (h : ∀ w, Holds enc w g 0 d → g < w.heap.size → Calls P f args w fun x w' => x = .returned (.tuple #[]) ∧ ∃ d' m os, Φ d' ∧ d'.size = d.size ∧ w' = sortWorld enc w g 0 m d' os) :
    Fn P f args (own e 1 (some ⟨g, 0, none⟩) n c (d.toList.map enc) :: K) (Ret (fun x : Array α => Φ x ∧ x.size = d.size) (fun _ => .tuple #[]) (fun x => own e 1 (some ⟨g, 0, none⟩) n c (x.toList.map enc) :: K)) := by
  unfold Fn
  intro w hw
  obtain ⟨hH, hg, _, _, hS⟩ := sep_sorted hw
  refine (h w hH hg).mono ?_
  rintro x w' ⟨rfl, d', m, os, hφ, hs, rfl⟩
  exact ⟨d', ⟨hφ, hs⟩, rfl, hS d' m os hs⟩
theorem flat_list (enc : α → List Value) (k : Nat) (hk : ∀ x, (enc x).length = k) (d : Array α) : (flatK enc k d).toList.map id = d.toList.flatMap enc := by
  rw [List.map_id]
  apply List.ext_getElem?
  intro t
  by_cases ht : t < d.size * k
  · have k0 : 0 < k := by
      rcases Nat.eq_zero_or_pos k with h | h
      · subst h; simp at ht
      · exact h
    have h1 := get_flatK enc k d t ht
    have hs : (flatK enc k d).size = d.size * k := by simp
    have h2 : t / k < d.size := by
      rw [Nat.div_lt_iff_lt_mul k0]
      exact ht
    have h3 : t % k < (enc d[t / k]!).length := by rw [hk]; exact Nat.mod_lt _ k0
    have h4 : ∀ (l : List α) (q r : Nat), r < k → ∀ x, l[q]? = some x → (l.flatMap enc)[q * k + r]? = (enc x)[r]? := by
      intro l
      induction l with
      | nil => intro q r _ x hx; simp at hx
      | cons a l ih =>
        intro q r hr x hx
        rw [List.flatMap_cons]
        cases q with
        | zero =>
          simp only [List.getElem?_cons_zero, Option.some.injEq] at hx
          subst hx
          rw [Nat.zero_mul, Nat.zero_add, List.getElem?_append_left (by rw [hk]; exact hr)]
        | succ q =>
          simp only [List.getElem?_cons_succ] at hx
          rw [List.getElem?_append_right (by rw [hk, Nat.succ_mul]; omega), hk, show (q + 1) * k + r - k = q * k + r by rw [Nat.succ_mul]; omega]
          exact ih q r hr x hx
    have h5 := h4 d.toList (t / k) (t % k) (Nat.mod_lt _ k0) d[t / k]! (by simp [h2])
    rw [Nat.div_add_mod' t k] at h5
    rw [h5, Array.getElem?_toList, Array.getElem?_eq_getElem (by rw [hs]; exact ht), List.getElem?_eq_getElem h3]
    rw [getElem!_pos _ t (by rw [hs]; exact ht)] at h1
    rw [h1, getElem!_pos (enc d[t / k]!) (t % k) h3]
  · have h6 : ∀ (l : List α), (l.flatMap enc).length = l.length * k := by
      intro l
      induction l with
      | nil => simp
      | cons a l ih => rw [List.flatMap_cons, List.length_append, ih, hk, List.length_cons, Nat.succ_mul]; omega
    rw [List.getElem?_eq_none (by simp; omega), List.getElem?_eq_none (by rw [h6]; simp; omega)]
theorem fn_sortK {enc : α → List Value} {k : Nat} (hk : ∀ x, (enc x).length = k) {Φ : Array α → Prop} (h : ∀ w, HoldsK enc k w g 0 d → g < w.heap.size → Calls P f args w fun x w' => x = .returned (.tuple #[]) ∧ ∃ d' m os, Φ d' ∧ d'.size = d.size ∧ w' = sortWorldK enc k w g 0 m d' os) :
    Fn P f args (own e k (some ⟨g, 0, none⟩) n c (d.toList.flatMap enc) :: K) (Ret (fun x : Array α => Φ x ∧ x.size = d.size) (fun _ => .tuple #[]) (fun x => own e k (some ⟨g, 0, none⟩) n c (x.toList.flatMap enc) :: K)) := by
  unfold Fn
  intro w hw
  rw [← flat_list enc k hk d] at hw
  obtain ⟨hH, hg, _, _, hS⟩ := sep_sorted hw
  refine (h w hH hg).mono ?_
  rintro x w' ⟨rfl, d', m, os, hφ, hs, rfl⟩
  refine ⟨d', ⟨hφ, hs⟩, rfl, ?_⟩
  have h1 := hS (flatK enc k d') m os (by simp [hs])
  rw [flat_list enc k hk d'] at h1
  exact h1
end
end Go.Proofs.Ytlfmpjojdhfflaa
/- Reports by their times; those of an id; without some. Plain. -/
namespace Go.Proofs.Ytlfmpjojdhfflaa
open Go.RowKit Go.Sort
/-! One id. -/
theorem srt_uniq {ss : List Seen} (h : Srt ss) {i j : Nat} {a b : Seen} (ha : ss[i]? = some a) (hb : ss[j]? = some b) (he : a.id = b.id) : i = j := by
  have hz : cmpI a.id.l b.id.l = 0 := by rw [he]; exact cmpI_self _
  have hz' : cmpI b.id.l a.id.l = 0 := by rw [he]; exact cmpI_self _
  rcases Nat.lt_trichotomy i j with h1 | h1 | h1
  · have := h.lt h1 ha hb; omega
  · exact h1
  · have := h.lt h1 hb ha; omega
theorem hasI_at2 {ss : List Seen} (hs : Srt ss) {id : Id} {i : Nat} {a : Seen} (ha : ss[i]? = some a) (he : a.id = id) : hasI ss id = true ∧ posI ss id = i := by
  have hh : hasI ss id = true := by
    unfold hasI
    rw [List.any_eq_true]
    exact ⟨a, List.mem_of_getElem? ha, by rw [he, cmpI_self]; rfl⟩
  obtain ⟨s, h1, h2⟩ := hasI_pos hs hh
  exact ⟨hh, srt_uniq hs h1 ha (h2.trans he.symm)⟩
theorem hasI_no {ss : List Seen} {id : Id} (h : ∀ (k : Nat) (s : Seen), ss[k]? = some s → s.id ≠ id) : hasI ss id = false := by
  cases hh : hasI ss id with
  | false => rfl
  | true =>
    unfold hasI at hh
    rw [List.any_eq_true] at hh
    obtain ⟨s, hs, h1⟩ := hh
    obtain ⟨k, hk⟩ := List.getElem?_of_mem hs
    exact absurd ((Id.eq_iff _ _).1 (of_decide_eq_true h1)) (h k s hk)
/-! What became of one. -/
def setC (s : Seen) (c : Int) (hc : -9223372036854775808 ≤ c ∧ c ≤ 9223372036854775807) : Seen := ⟨s.id, s.t, c, s.tb, hc⟩
theorem srt_ids {ss ss' : List Seen} (h : ss'.map Seen.id = ss.map Seen.id) (hs : Srt ss) : Srt ss' := by
  have h1 : (ss.map Seen.id).Pairwise (fun a b => cmpI a.l b.l < 0) := (List.pairwise_map (f := Seen.id) (R := fun a b => cmpI a.l b.l < 0)).2 hs
  rw [← h] at h1
  exact (List.pairwise_map (f := Seen.id) (R := fun a b => cmpI a.l b.l < 0)).1 h1
theorem srt_set {ss : List Seen} (hs : Srt ss) {i : Nat} {s s' : Seen} (h : ss[i]? = some s) (he : s'.id = s.id) : Srt (ss.set i s') := by
  refine srt_ids ?_ hs
  rw [List.map_set, he]
  apply List.ext_getElem?
  intro j
  rw [List.getElem?_set]
  split
  · rename_i hj
    subst hj
    rw [List.getElem?_map, h]
    have := (List.getElem?_eq_some_iff.1 h).1
    simp [this]
  · rfl
/-! Some of them. -/
theorem srt_filter {ss : List Seen} (hs : Srt ss) (p : Seen → Bool) : Srt (ss.filter p) := hs.sublist List.filter_sublist
abbrev tooOld (b : Int) (s : Seen) : Bool := decide (s.t < b)
abbrev outside (f t : Int) (s : Seen) : Bool := decide (s.t < f) || decide (t ≤ s.t)
/-! By their times, then by their ids. -/
def cfT (u v : Seen) : Int := if u.t < v.t then -1 else if v.t < u.t then 1 else cmpI u.id.l v.id.l
def byT (u v : Seen) : Bool := decide (u.t < v.t) || (decide (u.t = v.t) && lessI u.id.l v.id.l)
theorem cfT_swap (u v : Seen) : cfT v u = -cfT u v := by
  unfold cfT
  have := cmpI_swap u.id.l v.id.l
  split <;> split <;> omega
theorem cfT_trans {u v w : Seen} (h1 : cfT u v < 0) (h2 : cfT v w < 0) : cfT u w < 0 := by
  have h3 := @cmpI_trans u.id.l v.id.l w.id.l
  have b1 := cmpI_vals u.id.l v.id.l
  have b2 := cmpI_vals v.id.l w.id.l
  unfold cfT at *
  split at h1 <;> split at h2 <;> split <;> first | omega | skip
  all_goals (split at h1 <;> split at h2 <;> first | omega | skip)
  all_goals (rw [if_neg (by omega)]; exact h3 h1 h2)
theorem cfT_self (u : Seen) : cfT u u = 0 := by
  unfold cfT
  rw [if_neg (Int.lt_irrefl _), if_neg (Int.lt_irrefl _)]
  exact cmpI_self _
theorem cfT_zero {u v : Seen} (h : cfT u v = 0) : u.t = v.t ∧ u.id = v.id := by
  unfold cfT at h
  split at h
  · omega
  · split at h
    · omega
    · exact ⟨by omega, (Id.eq_iff _ _).1 h⟩
/-- The same place: the same answers. -/
theorem cfT_cong {u v w : Seen} (h : cfT u v = 0) : cfT w u = cfT w v := by
  obtain ⟨h1, h2⟩ := cfT_zero h
  unfold cfT
  rw [h1, h2]
theorem cfT_le_trans {u v w : Seen} (h1 : cfT u v ≤ 0) (h2 : cfT v w ≤ 0) : cfT u w ≤ 0 := by
  rcases Int.lt_or_eq_of_le h2 with h | h
  · rcases Int.lt_or_eq_of_le h1 with h' | h'
    · exact Int.le_of_lt (cfT_trans h' h)
    · have := cfT_cong (w := w) h'
      have a := cfT_swap w u
      have b := cfT_swap w v
      omega
  · rw [← cfT_cong h]
    exact h1
theorem byT_iff (u v : Seen) : byT u v = decide (cfT u v < 0) := by
  unfold byT cfT lessI
  rw [Bool.eq_iff_iff]
  simp only [Bool.or_eq_true, Bool.and_eq_true, decide_eq_true_eq]
  constructor
  · rintro (h | ⟨h, h'⟩)
    · rw [if_pos h]; decide
    · rw [if_neg (by omega), if_neg (by omega)]; exact h'
  · intro h
    split at h
    · exact .inl (by assumption)
    · split at h
      · omega
      · exact .inr ⟨by omega, h⟩
theorem swo_T : SWO (ltOf cfT) where
  irrefl x := by unfold ltOf; rw [cfT_self]; rfl
  trans x y z h1 h2 := by
    unfold ltOf at *
    exact decide_eq_true (cfT_trans (of_decide_eq_true h1) (of_decide_eq_true h2))
  ntrans x y z h1 h2 := by
    unfold ltOf at *
    have a1 := of_decide_eq_false h1
    have a2 := of_decide_eq_false h2
    have b1 := cfT_swap x y
    have b2 := cfT_swap y z
    have b3 := cfT_swap x z
    have := cfT_le_trans (u := z) (v := y) (w := x) (by omega) (by omega)
    exact decide_eq_false (by omega)
def leT (u v : Seen) : Prop := cfT u v ≤ 0
theorem insB_perm (bf : Seen → Seen → Bool) (ss : List Seen) (s : Seen) : (insB bf ss s).Perm (s :: ss) := by
  unfold insB
  refine List.perm_middle.trans ?_
  rw [List.take_append_drop]
theorem insB_le {ss : List Seen} (h : ss.Pairwise leT) (s : Seen) : (insB byT ss s).Pairwise leT := by
  unfold insB
  have h1 : ∀ u ∈ ss.take (ss.takeWhile fun u => byT u s).length, leT u s := fun u hu => by
    have := tw_take (fun u => byT u s) ss u hu
    rw [byT_iff, decide_eq_true_eq] at this
    exact Int.le_of_lt this
  have h2 : ∀ u ∈ ss.drop (ss.takeWhile fun u => byT u s).length, leT s u := fun u hu => by
    obtain ⟨k, hk⟩ := List.getElem?_of_mem hu
    rw [List.getElem?_drop] at hk
    cases hf : ss[(ss.takeWhile fun u => byT u s).length]? with
    | none =>
      have a := List.getElem?_eq_none_iff.1 hf
      have b := (List.getElem?_eq_some_iff.1 hk).1
      omega
    | some f =>
      have a := tw_next (fun u => byT u s) ss f hf
      rw [byT_iff, decide_eq_false_iff_not] at a
      have b := cfT_swap f s
      have c : leT s f := by unfold leT; omega
      rcases Nat.eq_zero_or_pos k with h0 | h0
      · subst h0
        rw [Nat.add_zero, hf] at hk
        injection hk with hk
        subst hk
        exact c
      · obtain ⟨p1, rfl⟩ := List.getElem?_eq_some_iff.1 hf
        obtain ⟨p2, rfl⟩ := List.getElem?_eq_some_iff.1 hk
        exact cfT_le_trans c (List.pairwise_iff_getElem.1 h _ _ p1 p2 (by omega))
  rw [List.pairwise_append]
  refine ⟨h.sublist (List.take_sublist _ _), List.pairwise_cons.2 ⟨h2, h.sublist (List.drop_sublist _ _)⟩, fun a ha b hb => ?_⟩
  rcases List.mem_cons.1 hb with rfl | hb
  · exact h1 a ha
  · exact cfT_le_trans (h1 a ha) (h2 b hb)
def sortT (l : List Seen) : List Seen := l.foldl (fun r s => insB byT r s) []
theorem sortT_snoc (l : List Seen) (s : Seen) : sortT (l ++ [s]) = insB byT (sortT l) s := by
  unfold sortT
  rw [List.foldl_append]
  rfl
theorem sortT_inv : ∀ (n : Nat) (l : List Seen), l.length = n → (sortT l).Perm l ∧ (sortT l).Pairwise leT
  | 0, l, h => by
    obtain rfl := List.eq_nil_of_length_eq_zero h
    exact ⟨.refl _, .nil⟩
  | n + 1, l, h => by
    obtain ⟨l', a, rfl⟩ : ∃ l' a, l = l' ++ [a] := ⟨l.dropLast, l.getLast (fun e => by rw [e] at h; simp at h), (List.dropLast_concat_getLast _).symm⟩
    obtain ⟨h1, h2⟩ := sortT_inv n l' (by simpa using h)
    rw [sortT_snoc]
    exact ⟨(insB_perm _ _ _).trans ((h1.cons a).trans (List.perm_append_comm (l₁ := [a]))), insB_le h2 a⟩
/-- Sorted, however: the same. -/
theorem sort_one {l d : List Seen} (hs : Srt l) (hp : d.Perm l) (hd : d.Pairwise leT) : d = sortT l := by
  obtain ⟨h1, h2⟩ := sortT_inv _ l rfl
  refine List.Perm.eq_of_pairwise (le := leT) (fun a b ha hb h3 h4 => ?_) hd h2 (hp.trans h1.symm)
  have h5 := cfT_swap a b
  unfold leT at h3 h4
  obtain ⟨-, hid⟩ := cfT_zero (show cfT a b = 0 by omega)
  obtain ⟨i, hi⟩ := List.getElem?_of_mem (hp.mem_iff.1 ha)
  obtain ⟨j, hj⟩ := List.getElem?_of_mem (h1.mem_iff.1 hb)
  have := srt_uniq hs hi hj hid
  subst this
  rw [hi] at hj
  exact Option.some.inj hj
end Go.Proofs.Ytlfmpjojdhfflaa
/- The shelf's contract of slices.SortFunc at reports, laid at this program (printed by the kit's lay-plain), and over facts: of none. -/
namespace Go.Proofs.Ytlfmpjojdhfflaa
open Go.Shelf Go.Sort Go.RowKit
def sortR_ren : Go.Shelf.Ren := ⟨fun | 6 => 35 | 15 => 46 | 14 => 45 | 28 => 57 | 29 => 58 | 20 => 49 | 21 => 50 | 22 => 51 | 23 => 52 | 24 => 53 | 25 => 54 | 26 => 55 | 27 => 56 | 46 => 60 | 47 => 61 | 48 => 62 | 49 => 63 | 50 => 64 | 57 => 65 | n => n, fun | 22 => 37 | 24 => 33 | 25 => 72 | 3 => 3 | 39 => 79 | 0 => 0 | 53 => 90 | 55 => 30 | 4 => 4 | 46 => 84 | 45 => 83 | 50 => 63 | 5 => 5 | 9 => 9 | 66 => 92 | 70 => 96 | 76 => 98 | 77 => 99 | n => n, fun | n => n⟩
theorem sortR : Go.Proofs.SlLaysF0.n6 Try.prog sortR_ren := {
  mixed := by kernel_rfl
  f6 := ⟨Try.f35.name, by decide, Try.func35.trans (congrArg some (by kernel_rfl))⟩
  f14 := ⟨Try.f45.name, by decide, Try.func45.trans (congrArg some (by kernel_rfl))⟩
  f15 := Try.func46.trans (congrArg some (by kernel_rfl))
  f20 := ⟨Try.f49.name, by decide, Try.func49.trans (congrArg some (by kernel_rfl))⟩
  f21 := ⟨Try.f50.name, by decide, Try.func50.trans (congrArg some (by kernel_rfl))⟩
  f22 := ⟨Try.f51.name, by decide, Try.func51.trans (congrArg some (by kernel_rfl))⟩
  f23 := ⟨Try.f52.name, by decide, Try.func52.trans (congrArg some (by kernel_rfl))⟩
  f24 := ⟨Try.f53.name, by decide, Try.func53.trans (congrArg some (by kernel_rfl))⟩
  f25 := ⟨Try.f54.name, by decide, Try.func54.trans (congrArg some (by kernel_rfl))⟩
  f26 := ⟨Try.f55.name, by decide, Try.func55.trans (congrArg some (by kernel_rfl))⟩
  f27 := ⟨Try.f56.name, by decide, Try.func56.trans (congrArg some (by kernel_rfl))⟩
  f28 := Try.func57.trans (congrArg some (by kernel_rfl))
  f29 := Try.func58.trans (congrArg some (by kernel_rfl))
  f46 := ⟨Try.f60.name, by decide, Try.func60.trans (congrArg some (by kernel_rfl))⟩
  f47 := Try.func61.trans (congrArg some (by kernel_rfl))
  f48 := Try.func62.trans (congrArg some (by kernel_rfl))
  f49 := ⟨Try.f63.name, by decide, Try.func63.trans (congrArg some (by kernel_rfl))⟩
  f50 := ⟨Try.f64.name, by decide, Try.func64.trans (congrArg some (by kernel_rfl))⟩
  f57 := ⟨Try.f65.name, by decide, Try.func65.trans (congrArg some (by kernel_rfl))⟩
  t0 := Try.underlying0
  a0 := Try.isAgg0
  z0 := Try.sizeOf0
  v0 := Try.zeroValue0
  t3 := Try.underlying3
  a3 := Try.isAgg3
  z3 := Try.sizeOf3
  v3 := Try.zeroValue3
  t4 := Try.underlying4
  a4 := Try.isAgg4
  z4 := Try.sizeOf4
  v4 := Try.zeroValue4
  t5 := Try.underlying5
  a5 := Try.isAgg5
  z5 := Try.sizeOf5
  v5 := Try.zeroValue5
  t9 := Try.underlying9
  a9 := Try.isAgg9
  z9 := Try.sizeOf9
  v9 := Try.zeroValue9
  t22 := Try.underlying37
  a22 := Try.isAgg37
  z22 := Try.sizeOf37
  v22 := Try.zeroValue37
  t25 := Try.underlying72
  a25 := Try.isAgg72
  z25 := Try.sizeOf72
  v25 := Try.zeroValue72
  t39 := Try.underlying79
  a39 := Try.isAgg79
  z39 := Try.sizeOf79
  v39 := Try.zeroValue79
  t45 := Try.underlying83
  a45 := Try.isAgg83
  z45 := Try.sizeOf83
  v45 := Try.zeroValue83
  t46 := Try.underlying84
  a46 := Try.isAgg84
  z46 := Try.sizeOf84
  v46 := Try.zeroValue84
  t50 := Try.underlying63
  a50 := Try.isAgg63
  z50 := Try.sizeOf63
  v50 := Try.zeroValue63
  t53 := Try.underlying90
  a53 := Try.isAgg90
  z53 := Try.sizeOf90
  v53 := Try.zeroValue90
  t55 := Try.underlying30
  a55 := Try.isAgg30
  z55 := Try.sizeOf30
  v55 := Try.zeroValue30
  t66 := Try.underlying92
  a66 := Try.isAgg92
  z66 := Try.sizeOf92
  v66 := Try.zeroValue92
  t70 := Try.underlying96
  a70 := Try.isAgg96
  z70 := Try.sizeOf96
  v70 := Try.zeroValue96
  t76 := Try.underlying98
  a76 := Try.isAgg98
  z76 := Try.sizeOf98
  v76 := Try.zeroValue98
  t77 := Try.underlying99
  a77 := Try.isAgg99
  z77 := Try.sizeOf99
  v77 := Try.zeroValue99 }
/-- Of none. -/
theorem sort_none {K : List Fa} {A : Option Addr} {c : Nat} {fv : Value} : Fn Try.prog 35 #[.slice A 0 c, fv] K (Ret (fun _ : Unit => True) (fun _ => .tuple #[]) (fun _ => K)) := by
  unfold Fn
  intro w hw
  refine (AnyF.slices_SortFunc_none sortR A c fv w).mono ?_
  rintro x w' ⟨rfl, rfl⟩
  exact ⟨(), trivial, rfl, hw⟩
end Go.Proofs.Ytlfmpjojdhfflaa
