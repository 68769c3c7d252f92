/- Several texts of one claim, one behind the other (Sp4, Srt, Rd, Sp5, Reg2). -/
import Derived.Test.YtlfmpjojdhfflaaB05
import Derived.Test.YtlfmpjojdhfflaaB12
import Derived.Shelf.SlSortCmp.NoneTotal
import Derived.Test.YtlfmpjojdhfflaaB13
set_option linter.unusedVariables false
/- More steps over facts: stores into owned rows, several facts as one, entailments. No program is in sight. -/
namespace Go.Proofs.Ytlfmpjojdhfflaa
open Go.RowKit

/-! One set of facts for another. -/
def Ent_ (L L' : List Fa) : Prop := ∀ w, Sep w L → Sep w L'
section
variable {L L' L1 K G : List Fa} {f g : Fa} {w : World}
theorem Ent_.sub (h : Sub L L') : Ent_ L L' := fun _ hw => hw.sub h
theorem Ent_.trans (h : Ent_ L L1) (h' : Ent_ L1 L') : Ent_ L L' := fun w hw => h' w (h w hw)
theorem star_out : Ent_ (star G :: K) (G ++ K) := fun w hw => by
  have h1 : Sep w G := by
    have := hw.hd
    unfold star at this
    exact this
  refine h1.app hw.tl (fun k hk hk' => ?_)
  obtain ⟨f, hf, hk'⟩ := hk'
  refine hw.apart f hf k ?_ hk'
  unfold star
  exact hk
theorem star_in : Ent_ (G ++ K) (star G :: K) := fun w hw => by
  have h1 : (star G).P w := by
    unfold star
    exact hw.app_l
  exact (sep_one h1).app hw.app_r (fun k hk hk' => by
    rcases foot_cons.1 hk with e | e
    · unfold star at e
      exact hw.app_apart k e hk'
    · exact foot_nil e)
theorem Ent_.tail {f : Fa} (h : Ent_ L L') (hf : ∀ k, foot L' k → foot L k) : Ent_ (f :: L) (f :: L') := fun w hw =>
  (sep_one hw.hd).app (h w hw.tl) (fun k hk hk' => by
    rcases foot_cons.1 hk with e | e
    · obtain ⟨y, hy, hky⟩ := hf k hk'
      exact hw.apart y hy k e hky
    · exact foot_nil e)
/-- The same facts in another order, or fewer. -/
theorem Sep.perm_tail {A B : List Fa} (h : Sep w (A ++ K)) (hB : Sep w A → Sep w B) (hf : ∀ k, foot B k → foot A k) : Sep w (B ++ K) :=
  (hB h.app_l).app h.app_r (fun k hk hk' => h.app_apart k (hf k hk) hk')
section
variable {P : Program} {ops : Array Oper} {Q : Exit → Act → World → Prop} {n : Nat} {l : Env} {rest : List Oper} {S : World → Prop} {need : Nat → Bool} {fuel : Nat} {listed : Array Bool}
theorem sl_ent (h : Ent_ L L') (hk : SL P ops Q rest n l L') : SL P ops Q rest n l L := sl_of fun w hw => hk.to (h w hw)
theorem sc_ent {c : Code} (h : Ent_ L L') (hk : SC P c Q n l L') : SC P c Q n l L := by
  unfold SC at hk ⊢
  exact fun w hw => hk w (h w hw)
theorem se_ent {e : Exit} (h : Ent_ L L') (hk : SE Q e n l L') : SE Q e n l L := by
  unfold SE at hk ⊢
  exact fun w hw => hk w (h w hw)
theorem sd_ent (h : Ent_ L L') (hk : SD P ops Q S need fuel listed n l L') : SD P ops Q S need fuel listed n l L := sd_of fun w hw => hk.to (h w hw)
theorem fn_ent {f : FuncId} {args : Array Value} {R : Ending → World → Prop} (h : Ent_ L L') (hk : Fn P f args L' R) : Fn P f args L R := by
  unfold Fn at hk ⊢
  exact fun w hw => hk w (h w hw)
/-- A loop in its block, and what stands behind it. -/
theorem sc_bjoin {α : Type} {x y : Code} {id : Nat} (E : α → Env) (H : α → List Fa) (R : α → Prop) (hx : SC P x (Exit.inBlock id (Exit.then (fun a w => ∃ p : α, Sl n (E p) a ∧ R p ∧ Sep w (H p)) Q)) n l L) (hy : ∀ p, R p → SC P y Q n (E p) (H p)) : SC P x (Exit.inBlock id (Exit.then (fun a w => y.wp P Q a w) Q)) n l L := by
  unfold SC WC at hx hy ⊢
  intro w hw a hs
  have hm : ∀ e a w, Exit.then (fun a w => ∃ p : α, Sl n (E p) a ∧ R p ∧ Sep w (H p)) Q e a w → Exit.then (fun a w => y.wp P Q a w) Q e a w := by
    intro e a w h
    cases e
    · obtain ⟨p, h1, h2, h3⟩ := h
      exact hy p h2 w h3 a h1
    all_goals exact h
  refine Code.wp_mono (fun e a w h => ?_) (hx w hw a hs)
  cases e with
  | exit id' =>
    by_cases hc : id' = id
    · have h' : Exit.inBlock id (Exit.then (fun a w => ∃ p : α, Sl n (E p) a ∧ R p ∧ Sep w (H p)) Q) (.exit id') a w = Exit.then (fun a w => ∃ p : α, Sl n (E p) a ∧ R p ∧ Sep w (H p)) Q .normal a w := if_pos hc
      have h2 : Exit.inBlock id (Exit.then (fun a w => y.wp P Q a w) Q) (.exit id') a w = Exit.then (fun a w => y.wp P Q a w) Q .normal a w := if_pos hc
      rw [h2]
      rw [h'] at h
      exact hm _ _ _ h
    · have h' : Exit.inBlock id (Exit.then (fun a w => ∃ p : α, Sl n (E p) a ∧ R p ∧ Sep w (H p)) Q) (.exit id') a w = Exit.then (fun a w => ∃ p : α, Sl n (E p) a ∧ R p ∧ Sep w (H p)) Q (.exit id') a w := if_neg hc
      have h2 : Exit.inBlock id (Exit.then (fun a w => y.wp P Q a w) Q) (.exit id') a w = Exit.then (fun a w => y.wp P Q a w) Q (.exit id') a w := if_neg hc
      rw [h2]
      rw [h'] at h
      exact hm _ _ _ h
  | normal => exact hm .normal a w h
  | goto => exact hm (.goto _) a w h
  | ret => exact hm .ret a w h
  | panic => exact hm (.panic _) a w h
  | outgrown => exact hm .outgrown a w h
theorem Fn.retain {f : FuncId} {args : Array Value} {α : Type} {φ : α → Prop} {v : α → Value} {H H' : α → List Fa} (h : Fn P f args L (Ret φ v H)) (he : ∀ x, φ x → Ent_ (H x) (H' x)) : Fn P f args L (Ret φ v H') :=
  h.mono fun _ w' ⟨x, h1, h2, h3⟩ => ⟨x, h1, h2, he x h1 w' h3⟩
/-- Another way to say what is answered. -/
theorem Fn.say {f : FuncId} {args : Array Value} {α β : Type} {φ : α → Prop} {v : α → Value} {H : α → List Fa} {φ' : β → Prop} {v' : β → Value} {H' : β → List Fa} (h : Fn P f args L (Ret φ v H)) (he : ∀ x w, φ x → Sep w (H x) → ∃ y, φ' y ∧ v' y = v x ∧ Sep w (H' y)) : Fn P f args L (Ret φ' v' H') :=
  h.mono fun _ w' ⟨x, h1, h2, h3⟩ => by
    obtain ⟨y, e1, e2, e3⟩ := he x w' h1 h3
    exact ⟨y, e1, by rw [e2, h2], e3⟩
/-- Out of a contract of the older kind that leaves all blocks. -/
theorem Fn.quiet {f : FuncId} {args : Array Value} {v : Value} (h : ∀ w, Sep w L → Calls P f args w fun e w' => e = .returned v ∧ Fr Nil w w') : Fn P f args L (Ret (fun _ : Unit => True) (fun _ => v) (fun _ => L)) := by
  unfold Fn
  exact fun w hw => (h w hw).mono fun e w' ⟨h1, h2⟩ => ⟨(), trivial, h1, hw.nil h2⟩
end
end

/-! Stores into owned rows. -/
section
variable {P : Program} {ops : Array Oper} {Q : Exit → Act → World → Prop} {n : Nat} {l : Env} {L L' : List Fa} {rest : List Oper} {ty t e : TypeId} {pos : String} {after : Array Edge} {x y : Operand} {g i c size k : Nat} {xs cl : List Value} {v : Value} {w : World}
theorem own_open (h : w.ownsRow 0 e size (.slice (some ⟨g, 0, none⟩) k c) k xs) : ∃ cur, Blk w g e cur ∧ k ≤ c ∧ c ≤ maxLen ∧ cur.size = c * size ∧ cur.toList.take (k * size) = xs ∧ xs.length = k * size := by
  obtain ⟨hxl, h⟩ := h
  rcases h with ⟨h, _⟩ | ⟨g', cap, cur, hv, hb, hh, hkc, hcm, hcs, htk⟩
  · cases h
  · cases hv
    exact ⟨cur, hh, hkc, hcm, hcs, htk, hxl⟩
theorem own_close {cur : Array Value} (hB : Blk w g e cur) (hkc : k ≤ c) (hcm : c ≤ maxLen) (hcs : cur.size = c * size) (htk : cur.toList.take (k * size) = xs) (hxl : xs.length = k * size) : w.ownsRow 0 e size (.slice (some ⟨g, 0, none⟩) k c) k xs :=
  ⟨hxl, .inr ⟨g, c, cur, rfl, Nat.zero_le _, hB, hkc, hcm, hcs, htk⟩⟩
theorem own_mk (h : w.ownsRow 0 e size (.slice (some ⟨g, 0, none⟩) k c) k xs) : (own e size (some ⟨g, 0, none⟩) k c xs).P w := by
  unfold own
  exact h
theorem own_F : (own e size (some ⟨g, 0, none⟩) k c xs).F = fun j => some g = some j := by
  unfold own
  rfl
theorem sep_set (hw : Sep w L) (hp : Pick (own e size (some ⟨g, 0, none⟩) k c xs) L L') (hi : i < k * size) : ∃ cur : Array Value, Blk w g e cur ∧ i < cur.size ∧ ∀ w', Fr (fun j => j = g) w w' → Blk w' g e (cur.setIfInBounds i v) → Sep w' (own e size (some ⟨g, 0, none⟩) k c (xs.set i v) :: L') := by
  have h2 := hw.pick hp
  have hO : w.ownsRow 0 e size (.slice (some ⟨g, 0, none⟩) k c) k xs := by
    have := h2.hd
    unfold own at this
    exact this
  obtain ⟨cur, hB, hkc, hcm, hcs, htk, hxl⟩ := own_open hO
  have hks : k * size ≤ c * size := Nat.mul_le_mul_right _ hkc
  refine ⟨cur, hB, by omega, fun w' hF hB' => h2.step hF (fun j _ e => by rw [own_F]; exact congrArg some e.symm) (own_mk (own_close hB' hkc hcm (by simpa using hcs) ?_ (by simpa using hxl))) (fun j hj => .inl (by rw [own_F] at hj ⊢; exact hj))⟩
  rw [← htk, Array.toList_setIfInBounds, List.take_set]
theorem sl_sto (hx : ev l x = some (.pointer (some ⟨g, i, none⟩))) (hp : Pick (own e size (some ⟨g, 0, none⟩) k c xs) L L') (hy : ev l y = some v) (h1 : v.oneCell' = true) (ht : szOf P t = some 1) (hi : i < k * size)
    (h : SL P ops Q rest n l (own e size (some ⟨g, 0, none⟩) k c (xs.set i v) :: L')) : SL P ops Q (⟨none, .store t x y, ty, pos, after, none⟩ :: rest) n l L := sl_of fun w hw => by
  obtain ⟨cur, hB, hi', hk⟩ := sep_set (v := v) hw hp hi
  exact wl_store hx hy h1 ht hB hi' (fun w' hF _ hB' => h.to (hk w' hF hB'))
theorem sd_sto (j : Nat) {S : World → Prop} {need : Nat → Bool} {fuel : Nat} {listed : Array Bool} (hr : Region.ready .any ops listed = [j]) (ho : ops[j]? = some ⟨none, .store t x y, ty, pos, after, none⟩) (hx : ev l x = some (.pointer (some ⟨g, i, none⟩))) (hp : Pick (own e size (some ⟨g, 0, none⟩) k c xs) L L') (hy : ev l y = some v) (h1 : v.oneCell' = true) (ht : szOf P t = some 1) (hi : i < k * size)
    (hS : need j = true → ∀ w, Sep w (own e size (some ⟨g, 0, none⟩) k c (xs.set i v) :: L') → S w) (h : SD P ops Q S need fuel (listed.setIfInBounds j true) n l (own e size (some ⟨g, 0, none⟩) k c (xs.set i v) :: L')) : SD P ops Q S need (fuel + 1) listed n l L := sd_of fun w hw => by
  obtain ⟨cur, hB, hi', hk⟩ := sep_set (v := v) hw hp hi
  have h3 := hk (w.setCell ⟨g, i, none⟩ v) ((Fr.refl (fun k => k = g) w).setCell (.inr rfl) _) (hB.set_ i v)
  exact wd_skip j hr ho (rs_store hx hy h1 ht hB hi') (fun e => hS e _ h3) (h.to h3)
/-- A struct or an array, stored into a row. -/
theorem sl_sto_mid (hx : ev l x = some (.pointer (some ⟨g, i, none⟩))) (hp : Pick (own e size (some ⟨g, 0, none⟩) k c xs) L L') (hy : ev l y = some (.agg cl.toArray)) (hsz : szOf P t = some cl.length) (hi : i + cl.length ≤ k * size) (h1 : ∀ v ∈ cl, v.oneCell' = true)
    (h : SL P ops Q rest n l (own e size (some ⟨g, 0, none⟩) k c (xs.take i ++ cl ++ xs.drop (i + cl.length)) :: L')) : SL P ops Q (⟨none, .store t x y, ty, pos, after, none⟩ :: rest) n l L := sl_of fun w hw => WL.mk fun a hs => by
  have h2 := hw.pick hp
  have hO : w.ownsRow 0 e size (.slice (some ⟨g, 0, none⟩) k c) k xs := by
    have := h2.hd
    unfold own at this
    exact this
  obtain ⟨cur, hB, hkc, hcm, hcs, htk, hxl⟩ := own_open hO
  have hks : k * size ≤ c * size := Nat.mul_le_mul_right _ hkc
  have hcl : cur.toList.length = c * size := by simpa using hcs
  have hB2 := setCells_mid cl i w cur.toList (by simpa using hB) (by omega)
  refine wpList_store_mid rfl t x y rfl g i cl.toArray (hs.ev hx) (hs.ev hy) (fun j hj => ⟨by rw [hB.cell, Array.getElem?_eq_getElem (by simp at hj ⊢; omega)]; rfl, hB.frozen _⟩) (by rw [← szOf_eq]; simpa using hsz) (all_oneCell_toArray h1) ?_
  refine (h.to (h2.step (setCells_fr _ _ _) (fun j _ e => by rw [own_F]; exact congrArg some e.symm) (own_mk (own_close (cur := (cur.toList.take i ++ cl ++ cur.toList.drop (i + cl.length)).toArray) (by simpa using hB2) hkc hcm (by simp; omega) ?_ (by simp; omega))) (fun j hj => .inl (by rw [own_F] at hj ⊢; exact hj)))).get hs
  have e1 : cur.toList.take i = xs.take i := by rw [← htk, List.take_take, Nat.min_eq_left (by omega)]
  have e2 : xs.drop (i + cl.length) = (cur.toList.drop (i + cl.length)).take (k * size - (i + cl.length)) := by rw [← htk, List.drop_take]
  rw [List.toList_toArray, e2, ← e1, List.take_append, List.take_of_length_le (by simp; omega)]
  congr 1
  simp
  congr 1
  omega
end
section
variable {X : Type} {C : X → List Value} {sz : Nat}
theorem rows_set (hC : ∀ s, (C s).length = sz) : ∀ {ss : List X} {j i : Nat} {s s' : X} {v : Value}, ss[j]? = some s → (C s).set i v = C s' → i < sz → (rows C ss).set (j * sz + i) v = rows C (ss.set j s')
  | [], j, i, s, s', v, h, _, _ => by simp at h
  | a :: r, 0, i, s, s', v, h, he, hi => by
    simp at h
    subst h
    rw [rows_cons, List.set_cons_zero, rows_cons, Nat.zero_mul, Nat.zero_add, List.set_append_left _ _ (by rw [hC]; exact hi), he]
  | a :: r, j + 1, i, s, s', v, h, he, hi => by
    rw [rows_cons, List.set_cons_succ, rows_cons, ← rows_set hC (ss := r) (by simpa using h) he hi, List.set_append_right _ _ (by rw [hC, Nat.succ_mul]; omega), hC]
    congr 2
    rw [Nat.succ_mul]
    omega
theorem rows_put (hC : ∀ s, (C s).length = sz) : ∀ {ss : List X} {j : Nat} (s' : X), j < ss.length → (rows C ss).take (j * sz) ++ C s' ++ (rows C ss).drop (j * sz + (C s').length) = rows C (ss.set j s')
  | ss, j, s', h => by
    rw [hC, show j * sz + sz = (j + 1) * sz from by rw [Nat.succ_mul], rows_take hC, rows_drop hC, ← rows_one (C := C) s', ← rows_app, ← rows_app, List.set_eq_take_append_cons_drop, if_pos h]
    simp
end
/-! copy into a block. -/
section
variable {P : Program} {ops : Array Oper} {Q : Exit → Act → World → Prop} {n : Nat} {l : Env} {L L' : List Fa} {rest : List Oper} {d : Tmp} {dst : Option Tmp} {ty t t' t0 e : TypeId} {pos : String} {after : Array Edge} {x y : Operand} {g o dLen dCap sLen sCap size kk : Nat} {a : Addr} {cs cs0 : List Value}
theorem sep_copy_blk {w : World} (hw : Sep w L) (hp : Pick (blk g t0 cs0) L L') (hsz : szOf P e = some size) (ht : P.underlying t = some (.slice e)) (hk : min sLen dLen = kk) (hn : cs.length = kk * size) (hr : ∀ w, Sep w L → ∀ j v, cs[j]? = some v → w.cell? (a.add j) = some v) (hfit : o + cs.length ≤ cs0.length) (h1 : ∀ v ∈ cs, v.oneCell' = true) :
    ∃ w', (Builtin.copy_ #[t, t'] ty #[.slice (some ⟨g, o, none⟩) dLen dCap, .slice (some a) sLen sCap]).run P w = .ok (goInt kk) w' ∧ Sep w' (blk g t0 (cs0.take o ++ cs ++ cs0.drop (o + cs.length)) :: L') := by
  subst hk
  have h2 := hw.pick hp
  have hB : Blk w g t0 cs0.toArray := by
    have := h2.hd
    unfold blk at this
    exact this
  refine ⟨_, run_copy_rows w t t' ty e g o dLen dCap a sLen sCap size cs0.toArray t0 cs ht hsz hB hn (hr w hw) (by simpa using hfit) h1, ?_⟩
  refine h2.step (setRow_fr w g _) (fun j _ e => by unfold blk; exact e) ?_ (fun j hj => .inl (by unfold blk at hj ⊢; exact hj))
  have hP := setRow_heap w g cs0.toArray (cs0.take o ++ cs ++ cs0.drop (o + cs.length)).toArray t0 (0, 0) hB
  unfold blk
  exact hP
theorem sl_copy_blk (hx : ev l x = some (.slice (some ⟨g, o, none⟩) dLen dCap)) (hp : Pick (blk g t0 cs0) L L') (hy : ev l y = some (.slice (some a) sLen sCap)) (hsz : szOf P e = some size) (ht : P.underlying t = some (.slice e)) (hk : min sLen dLen = kk) (hn : cs.length = kk * size)
    (hr : ∀ w, Sep w L → ∀ j v, cs[j]? = some v → w.cell? (a.add j) = some v) (hfit : o + cs.length ≤ cs0.length) (h1 : ∀ v ∈ cs, v.oneCell' = true) (hd : (match dst with | some d => Nat.blt d n | none => true) = true)
    (h : SL P ops Q rest n (match dst with | some d => (d, goInt kk) :: l | none => l) (blk g t0 (cs0.take o ++ cs ++ cs0.drop (o + cs.length)) :: L')) :
    SL P ops Q (⟨dst, .call { callee := .builtin .copy, args := #[x, y], argTypes := #[t, t'] }, ty, pos, after, none⟩ :: rest) n l L := sl_of fun w hw => WL.mk fun a' hs => by
  obtain ⟨w', hr', hw'⟩ := sep_copy_blk (P := P) (ty := ty) (t' := t') (dCap := dCap) (sCap := sCap) hw hp hsz ht hk hn hr hfit h1
  refine wpList_plain rfl fun K hK => ?_
  unfold Oper.wp
  simp only [execOp, resolve, List.map_toArray, List.map_cons, List.map_nil, hs.ev hx, hs.ev hy]
  simp only [invoke, builtin, Sem.run_bind, Sem.run_pure, Result.andThen_ok, hr']
  cases dst with
  | none => exact hK _ _ ((h.to hw').get hs)
  | some d => exact hK _ _ ((h.to hw').get (hs.put hd _))
theorem sd_copy_blk {S : World → Prop} {need : Nat → Bool} {fuel : Nat} {listed : Array Bool} (j : Nat) (hrd : Region.ready .any ops listed = [j]) (ho : ops[j]? = some ⟨some d, .call { callee := .builtin .copy, args := #[x, y], argTypes := #[t, t'] }, ty, pos, after, none⟩)
    (hx : ev l x = some (.slice (some ⟨g, o, none⟩) dLen dCap)) (hp : Pick (blk g t0 cs0) L L') (hy : ev l y = some (.slice (some a) sLen sCap)) (hsz : szOf P e = some size) (ht : P.underlying t = some (.slice e)) (hk : min sLen dLen = kk) (hn : cs.length = kk * size)
    (hr : ∀ w, Sep w L → ∀ j v, cs[j]? = some v → w.cell? (a.add j) = some v) (hfit : o + cs.length ≤ cs0.length) (h1 : ∀ v ∈ cs, v.oneCell' = true) (hd : Nat.blt d n = true) (hS : ∀ w, Sep w (blk g t0 (cs0.take o ++ cs ++ cs0.drop (o + cs.length)) :: L') → S w)
    (h : SD P ops Q S need fuel (listed.setIfInBounds j true) n ((d, goInt kk) :: l) (blk g t0 (cs0.take o ++ cs ++ cs0.drop (o + cs.length)) :: L')) : SD P ops Q S need (fuel + 1) listed n l L := sd_of fun w hw => by
  obtain ⟨w', hr', hw'⟩ := sep_copy_blk (P := P) (ty := ty) (t' := t') (dCap := dCap) (sCap := sCap) hw hp hsz ht hk hn hr hfit h1
  refine wd_run j hrd ho (v := goInt kk) (w' := w') ?_ hd (fun _ => hS w' hw') (h.to hw')
  unfold Ru
  intro a' _ _ _ _ hs
  simp only [execOp, resolve, List.map_toArray, List.map_cons, List.map_nil, hs.ev hx, hs.ev hy]
  simp only [invoke, builtin, Sem.run_bind, Sem.run_pure, Result.andThen_ok, hr']
/-- A call that panics, where the order is drawn. -/
theorem sd_die (i : Nat) {S : World → Prop} {need : Nat → Bool} {fuel : Nat} {listed : Array Bool} {f : FuncId} {cap : List Value} {zs : List Operand} {vs : List Value} {ats : Array TypeId} {L1 : List Fa} {α : Type} {φ : α → Prop} {cc : α → List PanicEntry} {H : α → List Fa} (hr : Region.ready .any ops listed = [i]) (ho : ops[i]? = some ⟨some d, .call { callee := .value x, args := zs.toArray, argTypes := ats }, ty, pos, after, none⟩)
    (hx : ev l x = some (.func (.func f) #[] cap.toArray)) (hv : evs l zs = some vs) (hf : callable P f = true) (hd : Nat.blt d n = true) (hs : Sub L L1) (hc : Fn P f (vs ++ cap).toArray L1 (Pan φ cc H))
    (h : ∀ a, φ a → SE Q (.panic (cc a)) n l (H a)) : SD P ops Q S need (fuel + 1) listed n l L := sd_of fun w hw => by
  unfold Fn at hc
  unfold SE at h
  exact wd_die i hr ho hx hv hf (hc w (hw.sub hs)) (fun e w' ⟨a, h1, h2, h3⟩ => ⟨_, h2, h a h1 w' h3⟩)
end
section
variable {P : Program} {ops : Array Oper} {Q : Exit → Act → World → Prop} {n : Nat} {l : Env} {L : List Fa} {S : World → Prop} {need : Nat → Bool} {fuel : Nat} {listed : Array Bool} {e t' : TypeId} {size m c g : Nat} {A : Option Addr} {xs : List Value}
theorem sd_know {φ : Prop} (h : ∀ w, Sep w L → φ) (hk : φ → SD P ops Q S need fuel listed n l L) : SD P ops Q S need fuel listed n l L := sd_of fun w hw => (hk (h w hw)).to hw
theorem own_form_at (hp : At (own e size A m c xs) L) (hm : 0 < m) : ∀ w, Sep w L → ∃ g, A = some ⟨g, 0, none⟩ := fun w hw => by
  obtain ⟨g, cap, hv, _, _⟩ := World.ownsRow.form (own_at hw hp) hm
  exact ⟨g, by injection hv⟩
theorem results_cell1 {fn : Func} {p : Tmp} {ty : TypeId} (h : fn.results = #[.cell p ty]) (tmps : Array Value) (P : Program) (w : World) :
    (results fn tmps).run P w = ((asAddr (tmps.getD p undef)).run P w).andThen fun a w₁ => (loadVar ty a).run P w₁ := by
  simp only [results, h]
  simp [Sem.run_bind, Result.andThen]
/-- A result that is a variable in memory. -/
theorem se_ret_c {fn : Func} {α : Type} {φ : α → Prop} {vv : α → Value} {H : α → List Fa} {tp : Nat} {ty : TypeId} {td : TypeDesc} {csx : List Value} (x : α) (hφ : φ x) (hr : fn.results = #[.cell tp ty]) (hv : lk l tp = some (.pointer (some ⟨g, 0, none⟩))) (hb : At (blk g t' csx) L) (hu : P.underlying ty = some td) (hd' : (match td with | .struct _ | .array _ _ => true | _ => false) = true) (hi : szOf P ty = some csx.length)
    (he : vv x = .agg csx.toArray) (hs : Sub L (H x)) : SE (bodyPost P fn (Ret φ vv H)) .ret n l L := se_of fun w hw => WE.mk fun a hs' => by
  refine bodyPost_ret (v := vv x) ?_ hs'.df ⟨x, hφ, rfl, hw.sub hs⟩
  rw [results_cell1 hr, hs'.get hv, he]
  have hB : Blk w g t' csx.toArray := blk_at hw hb
  have hl := run_loadVar_at (P := P) w ⟨g, 0, none⟩ ty csx td (fun j v hj => by
    rw [add_none, Nat.zero_add, hB.cell]
    simpa using hj) hu hd' (by rw [← szOf_eq]; exact hi)
  simp [asAddr, hl]
end
section
variable {P : Program} {ops : Array Oper} {Q : Exit → Act → World → Prop} {n : Nat} {l : Env} {L L' : List Fa} {rest : List Oper} {ty t e : TypeId} {pos : String} {after : Array Edge} {x y : Operand} {g i c size k : Nat} {xs cl : List Value} {v : Value} {w : World} {p : Addr}
theorem sl_sto2 (hx : ev l x = some (.pointer (some p))) (hpe : p = ⟨g, i, none⟩) (hp : Pick (own e size (some ⟨g, 0, none⟩) k c xs) L L') (hy : ev l y = some v) (h1 : v.oneCell' = true) (ht : szOf P t = some 1) (hi : i < k * size)
    (h : SL P ops Q rest n l (own e size (some ⟨g, 0, none⟩) k c (xs.set i v) :: L')) : SL P ops Q (⟨none, .store t x y, ty, pos, after, none⟩ :: rest) n l L := sl_sto (hpe ▸ hx) hp hy h1 ht hi h
theorem sd_sto2 (j : Nat) {S : World → Prop} {need : Nat → Bool} {fuel : Nat} {listed : Array Bool} (hr : Region.ready .any ops listed = [j]) (ho : ops[j]? = some ⟨none, .store t x y, ty, pos, after, none⟩) (hx : ev l x = some (.pointer (some p))) (hpe : p = ⟨g, i, none⟩) (hp : Pick (own e size (some ⟨g, 0, none⟩) k c xs) L L') (hy : ev l y = some v) (h1 : v.oneCell' = true) (ht : szOf P t = some 1) (hi : i < k * size)
    (hS : need j = true → ∀ w, Sep w (own e size (some ⟨g, 0, none⟩) k c (xs.set i v) :: L') → S w) (h : SD P ops Q S need fuel (listed.setIfInBounds j true) n l (own e size (some ⟨g, 0, none⟩) k c (xs.set i v) :: L')) : SD P ops Q S need (fuel + 1) listed n l L := sd_sto j hr ho (hpe ▸ hx) hp hy h1 ht hi hS h
/-- A cell of an owned row, where all of some facts hold. -/
theorem pu_ldoA {L0 : List Fa} {o : Nat} (hb : At (own e size (some ⟨g, 0, none⟩) k c xs) L0) (hk : 0 < k) (hx : ev l x = some (.pointer (some p))) (hpe : p = ⟨g, o, none⟩) (ht : plainT P t = true) (hi : nth xs o = some v) : Pu P (fun W => AllP W L0) n l (.load t x) ty v :=
  pu_load (hpe ▸ hx) ht (fun W hW => by
    have hO : W.ownsRow 0 e size (.slice (some ⟨g, 0, none⟩) k c) k xs := by
      have := hW.at hb
      unfold own at this
      exact this
    obtain ⟨ad, h1, h2⟩ := (Reads.of_own hO).2 hk
    cases h1
    have h3 := h2 o v (by rw [← nth_eq]; exact hi)
    rwa [add_none, Nat.zero_add] at h3)
theorem pu_ldo {o : Nat} (hb : At (own e size (some ⟨g, 0, none⟩) k c xs) L) (hk : 0 < k) (hx : ev l x = some (.pointer (some p))) (hpe : p = ⟨g, o, none⟩) (ht : plainT P t = true) (hi : nth xs o = some v) : Pu P (In L) n l (.load t x) ty v :=
  pu_load (hpe ▸ hx) ht (fun W hW => by
    obtain ⟨ad, h1, h2⟩ := (Reads.of_own (own_at hW hb)).2 hk
    cases h1
    have h3 := h2 o v (by rw [← nth_eq]; exact hi)
    rwa [add_none, Nat.zero_add] at h3)
end
theorem at2 (g a b : Nat) : ((⟨g, 0, none⟩ : Addr).add a).add b = ⟨g, a + b, none⟩ := by rw [add_none, add_none, Nat.zero_add]
theorem at1 (g a : Nat) : (⟨g, 0, none⟩ : Addr).add a = ⟨g, a, none⟩ := by rw [add_none, Nat.zero_add]
theorem map_step {X : Type} (f : X → X) {l : List X} {j : Nat} {x : X} (h : l[j]? = some x) : ((l.take j).map f ++ l.drop j).set j (f x) = (l.take (j + 1)).map f ++ l.drop (j + 1) := by
  obtain ⟨h1, h2⟩ := List.getElem?_eq_some_iff.1 h
  have hl : ((l.take j).map f).length = j := by simp; omega
  rw [List.drop_eq_getElem_cons h1, List.set_append_right _ _ (by omega), hl, Nat.sub_self, List.set_cons_zero, List.take_succ_eq_append_getElem h1, List.map_append, List.append_assoc, h2]
  rfl
theorem map_at {X : Type} (f : X → X) {l : List X} {j : Nat} {x : X} (h : l[j]? = some x) : ((l.take j).map f ++ l.drop j)[j]? = some x := by
  obtain ⟨h1, h2⟩ := List.getElem?_eq_some_iff.1 h
  rw [List.getElem?_append_right (by simp; omega)]
  simp
  rw [show j - min j l.length = 0 from by omega, Nat.add_zero, h]
end Go.Proofs.Ytlfmpjojdhfflaa
/- The library's sort, by the shelf's contract, over facts. No program is in sight. -/
namespace Go.Proofs.Ytlfmpjojdhfflaa
open Go.RowKit Go.Sort Go.Shelf
section
variable {α : Type} [Inhabited α] {enc : α → Value} {w : World} {g n c size : Nat} {e : TypeId} {d : Array α} {P : Program} {f : FuncId} {args : Array Value} {K : List Fa}
theorem holds_blk {cur : Array Value} (hb : Blk w g e cur) (ht : cur.toList.take d.size = d.toList.map enc) : Holds enc w g 0 d := by
  intro j hj
  unfold Blk at hb
  refine ⟨?_, by simp [World.frozen?, hb]⟩
  have h1 : (cur.toList.take d.size)[j]? = (d.toList.map enc)[j]? := by rw [ht]
  rw [List.getElem?_take_of_lt hj] at h1
  simp only [World.cell?, hb, Nat.zero_add]
  simp only [Option.isSome_none, Bool.false_eq_true, if_false]
  rw [← Array.getElem?_toList, h1]
  simp [hj]
theorem blk_sorted {cur : Array Value} {m : Nat} {os : Array Obj} (d : Array α) (hb : Blk w g e cur) : Blk (sortWorld enc w g 0 m d os) g e (putCells enc 0 d cur) := by
  unfold Blk at hb
  have hg : g < w.heap.size := (Array.getElem?_eq_some_iff.1 hb).1
  unfold Blk sortWorld
  rw [heap_grow_old _ _ (by simpa [putRow, mapBlock, Sort.ahead] using hg)]
  simp [putRow, mapBlock, Sort.ahead, Array.getElem?_modify, hb, onCells]
theorem fr_sorted {m : Nat} {os : Array Obj} (d : Array α) : Fr (fun j => j = g) w (sortWorld enc w g 0 m d os) := by
  unfold sortWorld
  refine ⟨rfl, rfl, rfl, by simp [putRow, mapBlock, Sort.ahead], fun k hk hne => ?_⟩
  rw [heap_grow_old _ _ (by simpa [putRow, mapBlock, Sort.ahead] using hk)]
  have : g ≠ k := fun e => hne e.symm
  simp [putRow, mapBlock, Sort.ahead, Array.getElem?_modify, this]
theorem take_put (cur : Array Value) (d : Array α) (h : d.size ≤ cur.size) : (putCells enc 0 d cur).toList.take d.size = d.toList.map enc := by
  apply List.ext_getElem?
  intro j
  by_cases hj : j < d.size
  · rw [List.getElem?_take_of_lt hj, Array.getElem?_toList]
    simp [putCells, hj, show j < cur.size by omega]
  · rw [List.getElem?_take_eq_none (by omega), List.getElem?_eq_none (by simp; omega)]
theorem sep_sorted (hw : Sep w (own e size (some ⟨g, 0, none⟩) n c (d.toList.map enc) :: K)) : Holds enc w g 0 d ∧ g < w.heap.size ∧ d.size = n * size ∧ n ≤ c ∧ ∀ (d' : Array α) m os, d'.size = d.size → Sep (sortWorld enc w g 0 m d' os) (own e size (some ⟨g, 0, none⟩) n c (d'.toList.map enc) :: K) := by
  have hO : w.ownsRow 0 e size (.slice (some ⟨g, 0, none⟩) n c) n (d.toList.map enc) := by
    have := hw.hd
    unfold own at this
    exact this
  obtain ⟨cur, hB, hkc, hcm, hcs, htk, hxl⟩ := own_open hO
  have hn : d.size = n * size := by simpa using hxl
  have hle : n * size ≤ c * size := Nat.mul_le_mul_right _ hkc
  refine ⟨holds_blk hB (by rw [hn]; exact htk), hB.lt, hn, hkc, fun d' m os hs => ?_⟩
  refine hw.step (fr_sorted d') (fun j _ e => by rw [own_F]; exact congrArg some e.symm) (own_mk (own_close (blk_sorted d' hB) hkc hcm (by simp [putCells, hcs]) ?_ (by simp [hs, hn]))) (fun j hj => .inl (by rw [own_F] at hj ⊢; exact hj))
  rw [← hn, ← hs]
  exact take_put _ _ (by omega)
theorem fn_sort1 {Φ : Array α → Prop} (h : ∀ w, Holds enc w g 0 d → g < w.heap.size → Calls P f args w fun x w' => x = .returned (.tuple #[]) ∧ ∃ d' m os, Φ d' ∧ d'.size = d.size ∧ w' = sortWorld enc w g 0 m d' os) :
    Fn P f args (own e 1 (some ⟨g, 0, none⟩) n c (d.toList.map enc) :: K) (Ret (fun x : Array α => Φ x ∧ x.size = d.size) (fun _ => .tuple #[]) (fun x => own e 1 (some ⟨g, 0, none⟩) n c (x.toList.map enc) :: K)) := by
  unfold Fn
  intro w hw
  obtain ⟨hH, hg, _, _, hS⟩ := sep_sorted hw
  refine (h w hH hg).mono ?_
  rintro x w' ⟨rfl, d', m, os, hφ, hs, rfl⟩
  exact ⟨d', ⟨hφ, hs⟩, rfl, hS d' m os hs⟩
theorem flat_list (enc : α → List Value) (k : Nat) (hk : ∀ x, (enc x).length = k) (d : Array α) : (flatK enc k d).toList.map id = d.toList.flatMap enc := by
  rw [List.map_id]
  apply List.ext_getElem?
  intro t
  by_cases ht : t < d.size * k
  · have k0 : 0 < k := by
      rcases Nat.eq_zero_or_pos k with h | h
      · subst h; simp at ht
      · exact h
    have h1 := get_flatK enc k d t ht
    have hs : (flatK enc k d).size = d.size * k := by simp
    have h2 : t / k < d.size := by
      rw [Nat.div_lt_iff_lt_mul k0]
      exact ht
    have h3 : t % k < (enc d[t / k]!).length := by rw [hk]; exact Nat.mod_lt _ k0
    have h4 : ∀ (l : List α) (q r : Nat), r < k → ∀ x, l[q]? = some x → (l.flatMap enc)[q * k + r]? = (enc x)[r]? := by
      intro l
      induction l with
      | nil => intro q r _ x hx; simp at hx
      | cons a l ih =>
        intro q r hr x hx
        rw [List.flatMap_cons]
        cases q with
        | zero =>
          simp only [List.getElem?_cons_zero, Option.some.injEq] at hx
          subst hx
          rw [Nat.zero_mul, Nat.zero_add, List.getElem?_append_left (by rw [hk]; exact hr)]
        | succ q =>
          simp only [List.getElem?_cons_succ] at hx
          rw [List.getElem?_append_right (by rw [hk, Nat.succ_mul]; omega), hk, show (q + 1) * k + r - k = q * k + r by rw [Nat.succ_mul]; omega]
          exact ih q r hr x hx
    have h5 := h4 d.toList (t / k) (t % k) (Nat.mod_lt _ k0) d[t / k]! (by simp [h2])
    rw [Nat.div_add_mod' t k] at h5
    rw [h5, Array.getElem?_toList, Array.getElem?_eq_getElem (by rw [hs]; exact ht), List.getElem?_eq_getElem h3]
    rw [getElem!_pos _ t (by rw [hs]; exact ht)] at h1
    rw [h1, getElem!_pos (enc d[t / k]!) (t % k) h3]
  · have h6 : ∀ (l : List α), (l.flatMap enc).length = l.length * k := by
      intro l
      induction l with
      | nil => simp
      | cons a l ih => rw [List.flatMap_cons, List.length_append, ih, hk, List.length_cons, Nat.succ_mul]; omega
    rw [List.getElem?_eq_none (by simp; omega), List.getElem?_eq_none (by rw [h6]; simp; omega)]
theorem fn_sortK {enc : α → List Value} {k : Nat} (hk : ∀ x, (enc x).length = k) {Φ : Array α → Prop} (h : ∀ w, HoldsK enc k w g 0 d → g < w.heap.size → Calls P f args w fun x w' => x = .returned (.tuple #[]) ∧ ∃ d' m os, Φ d' ∧ d'.size = d.size ∧ w' = sortWorldK enc k w g 0 m d' os) :
    Fn P f args (own e k (some ⟨g, 0, none⟩) n c (d.toList.flatMap enc) :: K) (Ret (fun x : Array α => Φ x ∧ x.size = d.size) (fun _ => .tuple #[]) (fun x => own e k (some ⟨g, 0, none⟩) n c (x.toList.flatMap enc) :: K)) := by
  unfold Fn
  intro w hw
  rw [← flat_list enc k hk d] at hw
  obtain ⟨hH, hg, _, _, hS⟩ := sep_sorted hw
  refine (h w hH hg).mono ?_
  rintro x w' ⟨rfl, d', m, os, hφ, hs, rfl⟩
  refine ⟨d', ⟨hφ, hs⟩, rfl, ?_⟩
  have h1 := hS (flatK enc k d') m os (by simp [hs])
  rw [flat_list enc k hk d'] at h1
  exact h1
end
end Go.Proofs.Ytlfmpjojdhfflaa
/- Reports by their times; those of an id; without some. Plain. -/
namespace Go.Proofs.Ytlfmpjojdhfflaa
open Go.RowKit Go.Sort
/-! One id. -/
theorem srt_uniq {ss : List Seen} (h : Srt ss) {i j : Nat} {a b : Seen} (ha : ss[i]? = some a) (hb : ss[j]? = some b) (he : a.id = b.id) : i = j := by
  have hz : cmpI a.id.l b.id.l = 0 := by rw [he]; exact cmpI_self _
  have hz' : cmpI b.id.l a.id.l = 0 := by rw [he]; exact cmpI_self _
  rcases Nat.lt_trichotomy i j with h1 | h1 | h1
  · have := h.lt h1 ha hb; omega
  · exact h1
  · have := h.lt h1 hb ha; omega
theorem hasI_at2 {ss : List Seen} (hs : Srt ss) {id : Id} {i : Nat} {a : Seen} (ha : ss[i]? = some a) (he : a.id = id) : hasI ss id = true ∧ posI ss id = i := by
  have hh : hasI ss id = true := by
    unfold hasI
    rw [List.any_eq_true]
    exact ⟨a, List.mem_of_getElem? ha, by rw [he, cmpI_self]; rfl⟩
  obtain ⟨s, h1, h2⟩ := hasI_pos hs hh
  exact ⟨hh, srt_uniq hs h1 ha (h2.trans he.symm)⟩
theorem hasI_no {ss : List Seen} {id : Id} (h : ∀ (k : Nat) (s : Seen), ss[k]? = some s → s.id ≠ id) : hasI ss id = false := by
  cases hh : hasI ss id with
  | false => rfl
  | true =>
    unfold hasI at hh
    rw [List.any_eq_true] at hh
    obtain ⟨s, hs, h1⟩ := hh
    obtain ⟨k, hk⟩ := List.getElem?_of_mem hs
    exact absurd ((Id.eq_iff _ _).1 (of_decide_eq_true h1)) (h k s hk)
/-! What became of one. -/
def setC (s : Seen) (c : Int) (hc : -9223372036854775808 ≤ c ∧ c ≤ 9223372036854775807) : Seen := ⟨s.id, s.t, c, s.tb, hc⟩
theorem srt_ids {ss ss' : List Seen} (h : ss'.map Seen.id = ss.map Seen.id) (hs : Srt ss) : Srt ss' := by
  have h1 : (ss.map Seen.id).Pairwise (fun a b => cmpI a.l b.l < 0) := (List.pairwise_map (f := Seen.id) (R := fun a b => cmpI a.l b.l < 0)).2 hs
  rw [← h] at h1
  exact (List.pairwise_map (f := Seen.id) (R := fun a b => cmpI a.l b.l < 0)).1 h1
theorem srt_set {ss : List Seen} (hs : Srt ss) {i : Nat} {s s' : Seen} (h : ss[i]? = some s) (he : s'.id = s.id) : Srt (ss.set i s') := by
  refine srt_ids ?_ hs
  rw [List.map_set, he]
  apply List.ext_getElem?
  intro j
  rw [List.getElem?_set]
  split
  · rename_i hj
    subst hj
    rw [List.getElem?_map, h]
    have := (List.getElem?_eq_some_iff.1 h).1
    simp [this]
  · rfl
/-! Some of them. -/
theorem srt_filter {ss : List Seen} (hs : Srt ss) (p : Seen → Bool) : Srt (ss.filter p) := hs.sublist List.filter_sublist
abbrev tooOld (b : Int) (s : Seen) : Bool := decide (s.t < b)
abbrev outside (f t : Int) (s : Seen) : Bool := decide (s.t < f) || decide (t ≤ s.t)
/-! By their times, then by their ids. -/
def cfT (u v : Seen) : Int := if u.t < v.t then -1 else if v.t < u.t then 1 else cmpI u.id.l v.id.l
def byT (u v : Seen) : Bool := decide (u.t < v.t) || (decide (u.t = v.t) && lessI u.id.l v.id.l)
theorem cfT_swap (u v : Seen) : cfT v u = -cfT u v := by
  unfold cfT
  have := cmpI_swap u.id.l v.id.l
  split <;> split <;> omega
theorem cfT_trans {u v w : Seen} (h1 : cfT u v < 0) (h2 : cfT v w < 0) : cfT u w < 0 := by
  have h3 := @cmpI_trans u.id.l v.id.l w.id.l
  have b1 := cmpI_vals u.id.l v.id.l
  have b2 := cmpI_vals v.id.l w.id.l
  unfold cfT at *
  split at h1 <;> split at h2 <;> split <;> first | omega | skip
  all_goals (split at h1 <;> split at h2 <;> first | omega | skip)
  all_goals (rw [if_neg (by omega)]; exact h3 h1 h2)
theorem cfT_self (u : Seen) : cfT u u = 0 := by
  unfold cfT
  rw [if_neg (Int.lt_irrefl _), if_neg (Int.lt_irrefl _)]
  exact cmpI_self _
theorem cfT_zero {u v : Seen} (h : cfT u v = 0) : u.t = v.t ∧ u.id = v.id := by
  unfold cfT at h
  split at h
  · omega
  · split at h
    · omega
    · exact ⟨by omega, (Id.eq_iff _ _).1 h⟩
/-- The same place: the same answers. -/
theorem cfT_cong {u v w : Seen} (h : cfT u v = 0) : cfT w u = cfT w v := by
  obtain ⟨h1, h2⟩ := cfT_zero h
  unfold cfT
  rw [h1, h2]
theorem cfT_le_trans {u v w : Seen} (h1 : cfT u v ≤ 0) (h2 : cfT v w ≤ 0) : cfT u w ≤ 0 := by
  rcases Int.lt_or_eq_of_le h2 with h | h
  · rcases Int.lt_or_eq_of_le h1 with h' | h'
    · exact Int.le_of_lt (cfT_trans h' h)
    · have := cfT_cong (w := w) h'
      have a := cfT_swap w u
      have b := cfT_swap w v
      omega
  · rw [← cfT_cong h]
    exact h1
theorem byT_iff (u v : Seen) : byT u v = decide (cfT u v < 0) := by
  unfold byT cfT lessI
  rw [Bool.eq_iff_iff]
  simp only [Bool.or_eq_true, Bool.and_eq_true, decide_eq_true_eq]
  constructor
  · rintro (h | ⟨h, h'⟩)
    · rw [if_pos h]; decide
    · rw [if_neg (by omega), if_neg (by omega)]; exact h'
  · intro h
    split at h
    · exact .inl (by assumption)
    · split at h
      · omega
      · exact .inr ⟨by omega, h⟩
theorem swo_T : SWO (ltOf cfT) where
  irrefl x := by unfold ltOf; rw [cfT_self]; rfl
  trans x y z h1 h2 := by
    unfold ltOf at *
    exact decide_eq_true (cfT_trans (of_decide_eq_true h1) (of_decide_eq_true h2))
  ntrans x y z h1 h2 := by
    unfold ltOf at *
    have a1 := of_decide_eq_false h1
    have a2 := of_decide_eq_false h2
    have b1 := cfT_swap x y
    have b2 := cfT_swap y z
    have b3 := cfT_swap x z
    have := cfT_le_trans (u := z) (v := y) (w := x) (by omega) (by omega)
    exact decide_eq_false (by omega)
def leT (u v : Seen) : Prop := cfT u v ≤ 0
theorem insB_perm (bf : Seen → Seen → Bool) (ss : List Seen) (s : Seen) : (insB bf ss s).Perm (s :: ss) := by
  unfold insB
  refine List.perm_middle.trans ?_
  rw [List.take_append_drop]
theorem insB_le {ss : List Seen} (h : ss.Pairwise leT) (s : Seen) : (insB byT ss s).Pairwise leT := by
  unfold insB
  have h1 : ∀ u ∈ ss.take (ss.takeWhile fun u => byT u s).length, leT u s := fun u hu => by
    have := tw_take (fun u => byT u s) ss u hu
    rw [byT_iff, decide_eq_true_eq] at this
    exact Int.le_of_lt this
  have h2 : ∀ u ∈ ss.drop (ss.takeWhile fun u => byT u s).length, leT s u := fun u hu => by
    obtain ⟨k, hk⟩ := List.getElem?_of_mem hu
    rw [List.getElem?_drop] at hk
    cases hf : ss[(ss.takeWhile fun u => byT u s).length]? with
    | none =>
      have a := List.getElem?_eq_none_iff.1 hf
      have b := (List.getElem?_eq_some_iff.1 hk).1
      omega
    | some f =>
      have a := tw_next (fun u => byT u s) ss f hf
      rw [byT_iff, decide_eq_false_iff_not] at a
      have b := cfT_swap f s
      have c : leT s f := by unfold leT; omega
      rcases Nat.eq_zero_or_pos k with h0 | h0
      · subst h0
        rw [Nat.add_zero, hf] at hk
        injection hk with hk
        subst hk
        exact c
      · obtain ⟨p1, rfl⟩ := List.getElem?_eq_some_iff.1 hf
        obtain ⟨p2, rfl⟩ := List.getElem?_eq_some_iff.1 hk
        exact cfT_le_trans c (List.pairwise_iff_getElem.1 h _ _ p1 p2 (by omega))
  rw [List.pairwise_append]
  refine ⟨h.sublist (List.take_sublist _ _), List.pairwise_cons.2 ⟨h2, h.sublist (List.drop_sublist _ _)⟩, fun a ha b hb => ?_⟩
  rcases List.mem_cons.1 hb with rfl | hb
  · exact h1 a ha
  · exact cfT_le_trans (h1 a ha) (h2 b hb)
def sortT (l : List Seen) : List Seen := l.foldl (fun r s => insB byT r s) []
theorem sortT_snoc (l : List Seen) (s : Seen) : sortT (l ++ [s]) = insB byT (sortT l) s := by
  unfold sortT
  rw [List.foldl_append]
  rfl
theorem sortT_inv : ∀ (n : Nat) (l : List Seen), l.length = n → (sortT l).Perm l ∧ (sortT l).Pairwise leT
  | 0, l, h => by
    obtain rfl := List.eq_nil_of_length_eq_zero h
    exact ⟨.refl _, .nil⟩
  | n + 1, l, h => by
    obtain ⟨l', a, rfl⟩ : ∃ l' a, l = l' ++ [a] := ⟨l.dropLast, l.getLast (fun e => by rw [e] at h; simp at h), (List.dropLast_concat_getLast _).symm⟩
    obtain ⟨h1, h2⟩ := sortT_inv n l' (by simpa using h)
    rw [sortT_snoc]
    exact ⟨(insB_perm _ _ _).trans ((h1.cons a).trans (List.perm_append_comm (l₁ := [a]))), insB_le h2 a⟩
/-- Sorted, however: the same. -/
theorem sort_one {l d : List Seen} (hs : Srt l) (hp : d.Perm l) (hd : d.Pairwise leT) : d = sortT l := by
  obtain ⟨h1, h2⟩ := sortT_inv _ l rfl
  refine List.Perm.eq_of_pairwise (le := leT) (fun a b ha hb h3 h4 => ?_) hd h2 (hp.trans h1.symm)
  have h5 := cfT_swap a b
  unfold leT at h3 h4
  obtain ⟨-, hid⟩ := cfT_zero (show cfT a b = 0 by omega)
  obtain ⟨i, hi⟩ := List.getElem?_of_mem (hp.mem_iff.1 ha)
  obtain ⟨j, hj⟩ := List.getElem?_of_mem (h1.mem_iff.1 hb)
  have := srt_uniq hs hi hj hid
  subst this
  rw [hi] at hj
  exact Option.some.inj hj
end Go.Proofs.Ytlfmpjojdhfflaa
/- More steps over facts. No program is in sight. -/
namespace Go.Proofs.Ytlfmpjojdhfflaa
open Go.RowKit
theorem SE.to {Q : Exit → Act → World → Prop} {e : Exit} {n : Nat} {l : Env} {L : List Fa} {w : World} (hw : Sep w L) (h : SE Q e n l L) : WE Q e n l w := by
  unfold SE at h
  exact h w hw
theorem mid_set {pre m post : List Value} {k i : Nat} {v : Value} (hk : pre.length = k) (hi : i < m.length) : (pre ++ m ++ post).set (k + i) v = pre ++ m.set i v ++ post := by
  subst hk
  rw [List.append_assoc, List.append_assoc, List.set_append_right _ _ (by omega), Nat.add_sub_cancel_left, List.set_append_left _ _ hi]
theorem nth_mid {pre m post : List Value} {k i : Nat} {v : Value} (hk : pre.length = k) (h : nth m i = some v) : nth (pre ++ m ++ post) (k + i) = some v := by
  rw [nth_eq] at h ⊢
  exact Mid.of_append hk i v h
theorem rows_split {X : Type} {C : X → List Value} {sz : Nat} (hC : ∀ s, (C s).length = sz) {ss : List X} {j : Nat} {s : X} (h : ss[j]? = some s) : ∃ pre post, rows C ss = pre ++ C s ++ post ∧ pre.length = j * sz ∧ ∀ s', rows C (ss.set j s') = pre ++ C s' ++ post := by
  obtain ⟨h1, h2⟩ := List.getElem?_eq_some_iff.1 h
  refine ⟨rows C (ss.take j), rows C (ss.drop (j + 1)), ?_, ?_, fun s' => ?_⟩
  · conv => lhs; rw [← List.take_append_drop j ss, List.drop_eq_getElem_cons h1, h2]
    rw [rows_app, rows_cons, List.append_assoc]
  · rw [rows_len hC, List.length_take, Nat.min_eq_left (Nat.le_of_lt h1)]
  · rw [List.set_eq_take_append_cons_drop, if_pos h1, rows_app, rows_cons, List.append_assoc]
end Go.Proofs.Ytlfmpjojdhfflaa
/- A region that draws its order, in two parts: what only reads is taken first, wherever it stands; then the rest. No program is in sight. -/
namespace Go.Proofs.Ytlfmpjojdhfflaa
open Go.RowKit
section
variable {P : Program} {ops : Array Oper} {Q : Exit → Act → World → Prop} {md : Region.Mode} {S : World → Prop} {need : Nat → Bool}
/-- Whatever order is picked from here on; what 'need' names keeps S. -/
def wpAnyE (P : Program) (md : Region.Mode) (ops : Array Oper) (Q : Exit → Act → World → Prop) (S : World → Prop) (need : Nat → Bool) : Nat → Array Bool → Act → World → Prop
  | 0, listed, a, w => Region.ready md ops listed = [] ∧ Q .normal a w
  | fuel + 1, listed, a, w =>
    (Region.ready md ops listed = [] → Q .normal a w) ∧
    ∀ i ∈ Region.ready md ops listed, wpOp P ops Q i (fun a' w' => (need i = true → S w → S w') ∧ wpAnyE P md ops Q S need fuel (listed.setIfInBounds i true) a' w') a w
theorem wpAny_of_E : ∀ (fuel : Nat) (listed : Array Bool) (a : Act) (w : World), wpAnyE P md ops Q S need fuel listed a w → wpAny P md ops Q fuel listed a w
  | 0, _, _, _, h => h
  | fuel + 1, _, _, _, h => ⟨h.1, fun i hi => wpOp_mono (fun a' w' h' => wpAny_of_E fuel _ a' w' h'.2) (h.2 i hi)⟩
theorem E_of_any : ∀ (fuel : Nat) (listed : Array Bool) (a : Act) (w : World), (∀ j o, ops[j]? = some o → need j = true → listed.getD j true = true) → wpAny P md ops Q fuel listed a w → wpAnyE P md ops Q S need fuel listed a w
  | 0, _, _, _, _, h => h
  | fuel + 1, listed, a, w, hn, h => by
    refine ⟨h.1, fun i hi => ?_⟩
    obtain ⟨hun, oi, hoi, _⟩ := mem_ready.1 hi
    have hni : ¬ need i = true := fun e => by
      rw [hn i oi hoi e] at hun
      cases hun
    refine wpOp_mono (fun a' w' h' => ⟨fun e => absurd e hni, E_of_any fuel _ a' w' (fun j oj hj e => ?_) h'⟩) (h.2 i hi)
    by_cases hij : i = j
    · subst hij
      exact absurd e hni
    · rw [getD_set_ne true hij]
      exact hn j oj hj e
/-- One that yields wherever Y holds, Y being kept by all that may come before it. -/
theorem wpAnyE_first {Y : World → Prop} {i : Nat} {oi : Oper} {v : Value} (hi : ops[i]? = some oi) (hsel : ∀ (j : Nat) (o : Oper) cs b, ops[j]? = some o → o.op ≠ .select cs b)
    (hQ : ∀ c a w, Q (.panic c) (a.put oi.dst v) w → Q (.panic c) a w) (hYS : ∀ w w', Y w → (S w → S w') → Y w') :
    ∀ (fuel : Nat) (listed : Array Bool) (a : Act) (w : World), (∀ j oj, ops[j]? = some oj → j ≠ i → listed.getD j true = false → (∀ e ∈ oj.after, Region.binds md e = true → e.on ≠ i) → need j = true ∨ ∀ w, Y w) →
      (∀ j oj, ops[j]? = some oj → j ≠ i → listed.getD j true = false → (∀ e ∈ oj.after, Region.binds md e = true → e.on ≠ i) → oi.apart ops oj = true) →
      i ∈ Region.ready md ops listed → YieldsIf P ops Y oi v a → Y w →
      wpAnyE P md ops Q S need fuel (listed.setIfInBounds i true) (a.put oi.dst v) w → wpAnyE P md ops Q S need (fuel + 1) listed a w := by
  intro fuel
  induction fuel with
  | zero =>
    intro listed a w _ _ hr hy hY H
    refine ⟨fun h => (by rw [h] at hr; cases hr), fun j hj => ?_⟩
    by_cases hji : j = i
    · subst hji; exact hy.wpOp hi hY ⟨fun _ h => h, H⟩
    · have := ready_mono hj hji
      rw [H.1] at this
      cases this
  | succ fuel ih =>
    intro listed a w hneed hfree hr hy hY H
    refine ⟨fun h => (by rw [h] at hr; cases hr), fun j hj => ?_⟩
    by_cases hji : j = i
    · subst hji; exact hy.wpOp hi hY ⟨fun _ h => h, H⟩
    · have h1 := H.2 j (ready_mono hj hji)
      obtain ⟨hjun, oj, hoj, hall⟩ := mem_ready.1 hj
      have hnot : ∀ e ∈ oj.after, Region.binds md e = true → e.on ≠ i := fun e he hb heq => by
        have h1 := hall e he hb
        have h0 := (mem_ready.1 hr).1
        rw [heq] at h1
        rcases Nat.lt_or_ge i listed.size with h' | h'
        · simp [h'] at h0 h1; rw [h0] at h1; cases h1
        · simp [Array.getElem?_eq_none h'] at h1
      have hnd := hneed j oj hoj hji hjun hnot
      have h2 := wpOp_putIf hoj (hfree j oj hoj hji hjun hnot) (fun cs b => hsel i oi cs b hi) (fun cs b => hsel j oj cs b hoj) hQ hy h1
      have hlist : ∀ k, (listed.setIfInBounds j true).getD k true = false → listed.getD k true = false := fun k hun => by
        by_cases hjk : j = k
        · subst hjk; exact hjun
        · rw [getD_set_ne true hjk] at hun; exact hun
      refine wpOp_mono (fun a' w' h3 => ⟨h3.2.1, ih (listed.setIfInBounds j true) a' w' (fun k ok hk hki hun hno => hneed k ok hk hki (hlist k hun) hno) (fun k ok hk hki hun hno => hfree k ok hk hki (hlist k hun) hno) (ready_mono hr (Ne.symm hji)) h3.1 (hnd.elim (fun e => hYS w w' hY (h3.2.1 e)) (fun h => h w')) ?_⟩) h2
      rw [Array.setIfInBounds_comm _ _ hji]
      exact h3.2.2
end
section
variable {P : Program} {ops : Array Oper} {Q : Exit → Act → World → Prop} {n : Nat} {l : Env} {L L' : List Fa} {S : World → Prop} {need : Nat → Bool} {fuel : Nat} {listed : Array Bool} {d : Tmp} {op : Op} {ty : TypeId} {pos : String} {after : Array Edge} {v : Value}
/-- A region that draws its order: its first part. -/
def SX (P : Program) (ops : Array Oper) (Q : Exit → Act → World → Prop) (S : World → Prop) (need : Nat → Bool) (fuel : Nat) (listed : Array Bool) (n : Nat) (l : Env) (L : List Fa) : Prop := ∀ w, Sep w L → ∀ a, Sl n l a → wpAnyE P .any ops Q S need fuel listed a w
def freeOk (ops : Array Oper) (listed : Array Bool) (i : Nat) : Bool := Region.noSelect ops && Region.free .any ops listed i && (Region.ready .any ops listed).contains i
def stayOk (ops : Array Oper) (listed : Array Bool) (need : Nat → Bool) (i : Nat) : Bool :=
  (List.range ops.size).all fun j => j == i || listed.getD j true || need j || ((ops[j]?).map fun o => o.after.any fun e => Region.binds .any e && e.on == i).getD true
theorem stayOk_spec {i : Nat} (h : stayOk ops listed need i = true) (j : Nat) (oj : Oper) (hj : ops[j]? = some oj) (hji : j ≠ i) (hun : listed.getD j true = false) (hno : ∀ e ∈ oj.after, Region.binds .any e = true → e.on ≠ i) : need j = true := by
  unfold stayOk at h
  rw [List.all_eq_true] at h
  have hlt : j < ops.size := (Array.getElem?_eq_some_iff.1 hj).1
  have h1 := h j (List.mem_range.2 hlt)
  simp only [hj, Option.map_some, Option.getD_some, Bool.or_eq_true, beq_iff_eq, hun, Bool.false_eq_true, or_false] at h1
  rcases h1 with (h1 | h1) | h1
  · exact absurd h1 hji
  · exact h1
  · rw [Array.any_eq_true] at h1
    obtain ⟨k, hk, he⟩ := h1
    rw [Bool.and_eq_true, beq_iff_eq] at he
    exact absurd he.2 (hno _ (Array.getElem_mem hk) he.1)
theorem freeOk_spec {i : Nat} (h : freeOk ops listed i = true) : Region.noSelect ops = true ∧ Region.free .any ops listed i = true ∧ (Region.ready .any ops listed).contains i = true := by
  unfold freeOk at h
  simp only [Bool.and_eq_true] at h
  exact ⟨h.1.1, h.1.2, h.2⟩
theorem sx_drawn {id : Nat} {o : List Oper} (S : World → Prop) (need : Nat → Bool) (hm : P.follows .mixedOrders = true) (N : Nat) (hN : o.length = N) (h : SX P o.toArray Q S need N (Array.replicate N false) n l L) : SC P (.region id o.toArray true) Q n l L := by
  unfold SC WC
  intro w hw a hs
  refine wp_region_any hm (wpAny_of_E _ _ _ _ (S := S) (need := need) ?_)
  have h1 := h _ (hw.nil ((Fr.refl Nil w).drew)) a hs
  subst hN
  simpa using h1
/-- It looks at no memory. -/
theorem sx_pure (i : Nat) (hi : ops[i]? = some ⟨some d, op, ty, pos, after, none⟩) (hB : freeOk ops listed i = true) (hQ : NoP Q) (hr : Pu P (fun _ => True) n l op ty v) (hd : Nat.blt d n = true) (h : SX P ops Q S need fuel (listed.setIfInBounds i true) n ((d, v) :: l) L) : SX P ops Q S need (fuel + 1) listed n l L := fun w hw a hs => by
  obtain ⟨h1, h2, h3⟩ := freeOk_spec hB
  refine wpAnyE_first (Y := fun _ => True) hi (Region.noSelect_spec h1) (fun c a w => hQ c a _ _ w) (fun _ _ _ _ => trivial) fuel listed a w (fun _ _ _ _ _ _ => .inr fun _ => trivial) (Region.free_spec hi h2) (by simpa using h3) (.inl ⟨by simp [Region.wanted], fun W hW => ?_⟩) trivial (h w hw _ (hs.put hd v))
  unfold Pu at hr
  exact hr a _ _ _ _ W hs hW
/-- It reads what S keeps. -/
theorem sx_load (i : Nat) (hi : ops[i]? = some ⟨some d, op, ty, pos, after, none⟩) (hB : freeOk ops listed i = true) (hN : stayOk ops listed need i = true) (hQ : NoP Q) (hr : Pu P S n l op ty v) (hd : Nat.blt d n = true) (hS : ∀ w, Sep w L → S w) (h : SX P ops Q S need fuel (listed.setIfInBounds i true) n ((d, v) :: l) L) : SX P ops Q S need (fuel + 1) listed n l L := fun w hw a hs => by
  obtain ⟨h1, h2, h3⟩ := freeOk_spec hB
  refine wpAnyE_first (Y := S) hi (Region.noSelect_spec h1) (fun c a w => hQ c a _ _ w) (fun w w' hY e => e hY) fuel listed a w (fun j oj hj hji hun hno => .inl (stayOk_spec hN j oj hj hji hun hno)) (Region.free_spec hi h2) (by simpa using h3) (.inl ⟨by simp [Region.wanted], fun W hW => ?_⟩) (hS w hw) (h w hw _ (hs.put hd v))
  unfold Pu at hr
  exact hr a _ _ _ _ W hs hW
/-- All that was to be kept is done: the rest. -/
theorem sx_rest (hn : ((List.range ops.size).all fun j => !need j || listed.getD j true) = true) (h : SD P ops Q (fun _ => True) (fun _ => true) fuel listed n l L) : SX P ops Q S need fuel listed n l L := fun w hw a hs => by
  refine E_of_any _ _ _ _ (fun j oj hoj hj => ?_) ?_
  · have h1 := List.all_eq_true.1 hn j (List.mem_range.2 (Array.getElem?_eq_some_iff.1 hoj).1)
    simpa [hj] using h1
  · unfold SD WD at h
    exact wpAny_of_D _ _ _ _ (h w hw a hs)
theorem PuI.free {C : World → Prop} (h : PuI P [] l op v) : Pu P C n l op ty v := h.pu fun _ _ _ hf => by cases hf
attribute [irreducible] SX
end
end Go.Proofs.Ytlfmpjojdhfflaa
