/- More steps over facts: stores into owned rows, several facts as one, entailments. No program is in sight. -/
import Derived.Test.YtfnjeojaahnlfaaDoorSt
import Derived.Test.YtfnjeojaahnlfaaDoorEs
namespace Go.Proofs.YtfnjeojaahnlfaaDoor
open Go.RowKit

/-! One set of facts for another. -/
def Ent_ (L L' : List Fa) : Prop := ∀ w, Sep w L → Sep w L'
section
variable {L L' L1 K G : List Fa} {f g : Fa} {w : World}
theorem Ent_.sub (h : Sub L L') : Ent_ L L' := fun _ hw => hw.sub h
theorem Ent_.trans (h : Ent_ L L1) (h' : Ent_ L1 L') : Ent_ L L' := fun w hw => h' w (h w hw)
theorem star_out : Ent_ (star G :: K) (G ++ K) := fun w hw => by
  have h1 : Sep w G := by
    have := hw.hd
    unfold star at this
    exact this
  refine h1.app hw.tl (fun k hk hk' => ?_)
  obtain ⟨f, hf, hk'⟩ := hk'
  refine hw.apart f hf k ?_ hk'
  unfold star
  exact hk
theorem star_in : Ent_ (G ++ K) (star G :: K) := fun w hw => by
  have h1 : (star G).P w := by
    unfold star
    exact hw.app_l
  exact (sep_one h1).app hw.app_r (fun k hk hk' => by
    rcases foot_cons.1 hk with e | e
    · unfold star at e
      exact hw.app_apart k e hk'
    · exact foot_nil e)
theorem Ent_.tail {f : Fa} (h : Ent_ L L') (hf : ∀ k, foot L' k → foot L k) : Ent_ (f :: L) (f :: L') := fun w hw =>
  (sep_one hw.hd).app (h w hw.tl) (fun k hk hk' => by
    rcases foot_cons.1 hk with e | e
    · obtain ⟨y, hy, hky⟩ := hf k hk'
      exact hw.apart y hy k e hky
    · exact foot_nil e)
/-- The same facts in another order, or fewer. -/
theorem Sep.perm_tail {A B : List Fa} (h : Sep w (A ++ K)) (hB : Sep w A → Sep w B) (hf : ∀ k, foot B k → foot A k) : Sep w (B ++ K) :=
  (hB h.app_l).app h.app_r (fun k hk hk' => h.app_apart k (hf k hk) hk')
section
variable {P : Program} {ops : Array Oper} {Q : Exit → Act → World → Prop} {n : Nat} {l : Env} {rest : List Oper} {S : World → Prop} {need : Nat → Bool} {fuel : Nat} {listed : Array Bool}
theorem sl_ent (h : Ent_ L L') (hk : SL P ops Q rest n l L') : SL P ops Q rest n l L := sl_of fun w hw => hk.to (h w hw)
theorem sc_ent {c : Code} (h : Ent_ L L') (hk : SC P c Q n l L') : SC P c Q n l L := by
  unfold SC at hk ⊢
  exact fun w hw => hk w (h w hw)
theorem se_ent {e : Exit} (h : Ent_ L L') (hk : SE Q e n l L') : SE Q e n l L := by
  unfold SE at hk ⊢
  exact fun w hw => hk w (h w hw)
theorem sd_ent (h : Ent_ L L') (hk : SD P ops Q S need fuel listed n l L') : SD P ops Q S need fuel listed n l L := sd_of fun w hw => hk.to (h w hw)
theorem fn_ent {f : FuncId} {args : Array Value} {R : Ending → World → Prop} (h : Ent_ L L') (hk : Fn P f args L' R) : Fn P f args L R := by
  unfold Fn at hk ⊢
  exact fun w hw => hk w (h w hw)
/-- A loop in its block, and what stands behind it. -/
theorem sc_bjoin {α : Type} {x y : Code} {id : Nat} (E : α → Env) (H : α → List Fa) (R : α → Prop) (hx : SC P x (Exit.inBlock id (Exit.then (fun a w => ∃ p : α, Sl n (E p) a ∧ R p ∧ Sep w (H p)) Q)) n l L) (hy : ∀ p, R p → SC P y Q n (E p) (H p)) : SC P x (Exit.inBlock id (Exit.then (fun a w => y.wp P Q a w) Q)) n l L := by
  unfold SC WC at hx hy ⊢
  intro w hw a hs
  have hm : ∀ e a w, Exit.then (fun a w => ∃ p : α, Sl n (E p) a ∧ R p ∧ Sep w (H p)) Q e a w → Exit.then (fun a w => y.wp P Q a w) Q e a w := by
    intro e a w h
    cases e
    · obtain ⟨p, h1, h2, h3⟩ := h
      exact hy p h2 w h3 a h1
    all_goals exact h
  refine Code.wp_mono (fun e a w h => ?_) (hx w hw a hs)
  cases e with
  | exit id' =>
    by_cases hc : id' = id
    · have h' : Exit.inBlock id (Exit.then (fun a w => ∃ p : α, Sl n (E p) a ∧ R p ∧ Sep w (H p)) Q) (.exit id') a w = Exit.then (fun a w => ∃ p : α, Sl n (E p) a ∧ R p ∧ Sep w (H p)) Q .normal a w := if_pos hc
      have h2 : Exit.inBlock id (Exit.then (fun a w => y.wp P Q a w) Q) (.exit id') a w = Exit.then (fun a w => y.wp P Q a w) Q .normal a w := if_pos hc
      rw [h2]
      rw [h'] at h
      exact hm _ _ _ h
    · have h' : Exit.inBlock id (Exit.then (fun a w => ∃ p : α, Sl n (E p) a ∧ R p ∧ Sep w (H p)) Q) (.exit id') a w = Exit.then (fun a w => ∃ p : α, Sl n (E p) a ∧ R p ∧ Sep w (H p)) Q (.exit id') a w := if_neg hc
      have h2 : Exit.inBlock id (Exit.then (fun a w => y.wp P Q a w) Q) (.exit id') a w = Exit.then (fun a w => y.wp P Q a w) Q (.exit id') a w := if_neg hc
      rw [h2]
      rw [h'] at h
      exact hm _ _ _ h
  | normal => exact hm .normal a w h
  | goto => exact hm (.goto _) a w h
  | ret => exact hm .ret a w h
  | panic => exact hm (.panic _) a w h
  | outgrown => exact hm .outgrown a w h
theorem Fn.retain {f : FuncId} {args : Array Value} {α : Type} {φ : α → Prop} {v : α → Value} {H H' : α → List Fa} (h : Fn P f args L (Ret φ v H)) (he : ∀ x, φ x → Ent_ (H x) (H' x)) : Fn P f args L (Ret φ v H') :=
  h.mono fun _ w' ⟨x, h1, h2, h3⟩ => ⟨x, h1, h2, he x h1 w' h3⟩
/-- Another way to say what is answered. -/
theorem Fn.say {f : FuncId} {args : Array Value} {α β : Type} {φ : α → Prop} {v : α → Value} {H : α → List Fa} {φ' : β → Prop} {v' : β → Value} {H' : β → List Fa} (h : Fn P f args L (Ret φ v H)) (he : ∀ x w, φ x → Sep w (H x) → ∃ y, φ' y ∧ v' y = v x ∧ Sep w (H' y)) : Fn P f args L (Ret φ' v' H') :=
  h.mono fun _ w' ⟨x, h1, h2, h3⟩ => by
    obtain ⟨y, e1, e2, e3⟩ := he x w' h1 h3
    exact ⟨y, e1, by rw [e2, h2], e3⟩
/-- Out of a contract of the older kind that leaves all blocks. -/
theorem Fn.quiet {f : FuncId} {args : Array Value} {v : Value} (h : ∀ w, Sep w L → Calls P f args w fun e w' => e = .returned v ∧ Fr Nil w w') : Fn P f args L (Ret (fun _ : Unit => True) (fun _ => v) (fun _ => L)) := by
  unfold Fn
  exact fun w hw => (h w hw).mono fun e w' ⟨h1, h2⟩ => ⟨(), trivial, h1, hw.nil h2⟩
end
end

/-! Stores into owned rows. -/
section
variable {P : Program} {ops : Array Oper} {Q : Exit → Act → World → Prop} {n : Nat} {l : Env} {L L' : List Fa} {rest : List Oper} {ty t e : TypeId} {pos : String} {after : Array Edge} {x y : Operand} {g i c size k : Nat} {xs cl : List Value} {v : Value} {w : World}
theorem own_open (h : w.ownsRow 0 e size (.slice (some ⟨g, 0, none⟩) k c) k xs) : ∃ cur, Blk w g e cur ∧ k ≤ c ∧ c ≤ maxLen ∧ cur.size = c * size ∧ cur.toList.take (k * size) = xs ∧ xs.length = k * size := by
  obtain ⟨hxl, h⟩ := h
  rcases h with ⟨h, _⟩ | ⟨g', cap, cur, hv, hb, hh, hkc, hcm, hcs, htk⟩
  · cases h
  · cases hv
    exact ⟨cur, hh, hkc, hcm, hcs, htk, hxl⟩
theorem own_close {cur : Array Value} (hB : Blk w g e cur) (hkc : k ≤ c) (hcm : c ≤ maxLen) (hcs : cur.size = c * size) (htk : cur.toList.take (k * size) = xs) (hxl : xs.length = k * size) : w.ownsRow 0 e size (.slice (some ⟨g, 0, none⟩) k c) k xs :=
  ⟨hxl, .inr ⟨g, c, cur, rfl, Nat.zero_le _, hB, hkc, hcm, hcs, htk⟩⟩
theorem own_mk (h : w.ownsRow 0 e size (.slice (some ⟨g, 0, none⟩) k c) k xs) : (own e size (some ⟨g, 0, none⟩) k c xs).P w := by
  unfold own
  exact h
theorem own_F : (own e size (some ⟨g, 0, none⟩) k c xs).F = fun j => some g = some j := by
  unfold own
  rfl
theorem sep_set (hw : Sep w L) (hp : Pick (own e size (some ⟨g, 0, none⟩) k c xs) L L') (hi : i < k * size) : ∃ cur : Array Value, Blk w g e cur ∧ i < cur.size ∧ ∀ w', Fr (fun j => j = g) w w' → Blk w' g e (cur.setIfInBounds i v) → Sep w' (own e size (some ⟨g, 0, none⟩) k c (xs.set i v) :: L') := by
  have h2 := hw.pick hp
  have hO : w.ownsRow 0 e size (.slice (some ⟨g, 0, none⟩) k c) k xs := by
    have := h2.hd
    unfold own at this
    exact this
  obtain ⟨cur, hB, hkc, hcm, hcs, htk, hxl⟩ := own_open hO
  have hks : k * size ≤ c * size := Nat.mul_le_mul_right _ hkc
  refine ⟨cur, hB, by omega, fun w' hF hB' => h2.step hF (fun j _ e => by rw [own_F]; exact congrArg some e.symm) (own_mk (own_close hB' hkc hcm (by simpa using hcs) ?_ (by simpa using hxl))) (fun j hj => .inl (by rw [own_F] at hj ⊢; exact hj))⟩
  rw [← htk, Array.toList_setIfInBounds, List.take_set]
theorem sl_sto (hx : ev l x = some (.pointer (some ⟨g, i, none⟩))) (hp : Pick (own e size (some ⟨g, 0, none⟩) k c xs) L L') (hy : ev l y = some v) (h1 : v.oneCell' = true) (ht : szOf P t = some 1) (hi : i < k * size)
    (h : SL P ops Q rest n l (own e size (some ⟨g, 0, none⟩) k c (xs.set i v) :: L')) : SL P ops Q (⟨none, .store t x y, ty, pos, after, none⟩ :: rest) n l L := sl_of fun w hw => by
  obtain ⟨cur, hB, hi', hk⟩ := sep_set (v := v) hw hp hi
  exact wl_store hx hy h1 ht hB hi' (fun w' hF _ hB' => h.to (hk w' hF hB'))
theorem sd_sto (j : Nat) {S : World → Prop} {need : Nat → Bool} {fuel : Nat} {listed : Array Bool} (hr : Region.ready .any ops listed = [j]) (ho : ops[j]? = some ⟨none, .store t x y, ty, pos, after, none⟩) (hx : ev l x = some (.pointer (some ⟨g, i, none⟩))) (hp : Pick (own e size (some ⟨g, 0, none⟩) k c xs) L L') (hy : ev l y = some v) (h1 : v.oneCell' = true) (ht : szOf P t = some 1) (hi : i < k * size)
    (hS : need j = true → ∀ w, Sep w (own e size (some ⟨g, 0, none⟩) k c (xs.set i v) :: L') → S w) (h : SD P ops Q S need fuel (listed.setIfInBounds j true) n l (own e size (some ⟨g, 0, none⟩) k c (xs.set i v) :: L')) : SD P ops Q S need (fuel + 1) listed n l L := sd_of fun w hw => by
  obtain ⟨cur, hB, hi', hk⟩ := sep_set (v := v) hw hp hi
  have h3 := hk (w.setCell ⟨g, i, none⟩ v) ((Fr.refl (fun k => k = g) w).setCell (.inr rfl) _) (hB.set_ i v)
  exact wd_skip j hr ho (rs_store hx hy h1 ht hB hi') (fun e => hS e _ h3) (h.to h3)
/-- A struct or an array, stored into a row. -/
theorem sl_sto_mid (hx : ev l x = some (.pointer (some ⟨g, i, none⟩))) (hp : Pick (own e size (some ⟨g, 0, none⟩) k c xs) L L') (hy : ev l y = some (.agg cl.toArray)) (hsz : szOf P t = some cl.length) (hi : i + cl.length ≤ k * size) (h1 : ∀ v ∈ cl, v.oneCell' = true)
    (h : SL P ops Q rest n l (own e size (some ⟨g, 0, none⟩) k c (xs.take i ++ cl ++ xs.drop (i + cl.length)) :: L')) : SL P ops Q (⟨none, .store t x y, ty, pos, after, none⟩ :: rest) n l L := sl_of fun w hw => WL.mk fun a hs => by
  have h2 := hw.pick hp
  have hO : w.ownsRow 0 e size (.slice (some ⟨g, 0, none⟩) k c) k xs := by
    have := h2.hd
    unfold own at this
    exact this
  obtain ⟨cur, hB, hkc, hcm, hcs, htk, hxl⟩ := own_open hO
  have hks : k * size ≤ c * size := Nat.mul_le_mul_right _ hkc
  have hcl : cur.toList.length = c * size := by simpa using hcs
  have hB2 := setCells_mid cl i w cur.toList (by simpa using hB) (by omega)
  refine wpList_store_mid rfl t x y rfl g i cl.toArray (hs.ev hx) (hs.ev hy) (fun j hj => ⟨by rw [hB.cell, Array.getElem?_eq_getElem (by simp at hj ⊢; omega)]; rfl, hB.frozen _⟩) (by rw [← szOf_eq]; simpa using hsz) (all_oneCell_toArray h1) ?_
  refine (h.to (h2.step (setCells_fr _ _ _) (fun j _ e => by rw [own_F]; exact congrArg some e.symm) (own_mk (own_close (cur := (cur.toList.take i ++ cl ++ cur.toList.drop (i + cl.length)).toArray) (by simpa using hB2) hkc hcm (by simp; omega) ?_ (by simp; omega))) (fun j hj => .inl (by rw [own_F] at hj ⊢; exact hj)))).get hs
  have e1 : cur.toList.take i = xs.take i := by rw [← htk, List.take_take, Nat.min_eq_left (by omega)]
  have e2 : xs.drop (i + cl.length) = (cur.toList.drop (i + cl.length)).take (k * size - (i + cl.length)) := by rw [← htk, List.drop_take]
  rw [List.toList_toArray, e2, ← e1, List.take_append, List.take_of_length_le (by simp; omega)]
  congr 1
  simp
  congr 1
  omega
end
section
variable {X : Type} {C : X → List Value} {sz : Nat}
theorem rows_set (hC : ∀ s, (C s).length = sz) : ∀ {ss : List X} {j i : Nat} {s s' : X} {v : Value}, ss[j]? = some s → (C s).set i v = C s' → i < sz → (rows C ss).set (j * sz + i) v = rows C (ss.set j s')
  | [], j, i, s, s', v, h, _, _ => by simp at h
  | a :: r, 0, i, s, s', v, h, he, hi => by
    simp at h
    subst h
    rw [rows_cons, List.set_cons_zero, rows_cons, Nat.zero_mul, Nat.zero_add, List.set_append_left _ _ (by rw [hC]; exact hi), he]
  | a :: r, j + 1, i, s, s', v, h, he, hi => by
    rw [rows_cons, List.set_cons_succ, rows_cons, ← rows_set hC (ss := r) (by simpa using h) he hi, List.set_append_right _ _ (by rw [hC, Nat.succ_mul]; omega), hC]
    congr 2
    rw [Nat.succ_mul]
    omega
theorem rows_put (hC : ∀ s, (C s).length = sz) : ∀ {ss : List X} {j : Nat} (s' : X), j < ss.length → (rows C ss).take (j * sz) ++ C s' ++ (rows C ss).drop (j * sz + (C s').length) = rows C (ss.set j s')
  | ss, j, s', h => by
    rw [hC, show j * sz + sz = (j + 1) * sz from by rw [Nat.succ_mul], rows_take hC, rows_drop hC, ← rows_one (C := C) s', ← rows_app, ← rows_app, List.set_eq_take_append_cons_drop, if_pos h]
    simp
end
/-! copy into a block. -/
section
variable {P : Program} {ops : Array Oper} {Q : Exit → Act → World → Prop} {n : Nat} {l : Env} {L L' : List Fa} {rest : List Oper} {d : Tmp} {dst : Option Tmp} {ty t t' t0 e : TypeId} {pos : String} {after : Array Edge} {x y : Operand} {g o dLen dCap sLen sCap size kk : Nat} {a : Addr} {cs cs0 : List Value}
theorem sep_copy_blk {w : World} (hw : Sep w L) (hp : Pick (blk g t0 cs0) L L') (hsz : szOf P e = some size) (ht : P.underlying t = some (.slice e)) (hk : min sLen dLen = kk) (hn : cs.length = kk * size) (hr : ∀ w, Sep w L → ∀ j v, cs[j]? = some v → w.cell? (a.add j) = some v) (hfit : o + cs.length ≤ cs0.length) (h1 : ∀ v ∈ cs, v.oneCell' = true) :
    ∃ w', (Builtin.copy_ #[t, t'] ty #[.slice (some ⟨g, o, none⟩) dLen dCap, .slice (some a) sLen sCap]).run P w = .ok (goInt kk) w' ∧ Sep w' (blk g t0 (cs0.take o ++ cs ++ cs0.drop (o + cs.length)) :: L') := by
  subst hk
  have h2 := hw.pick hp
  have hB : Blk w g t0 cs0.toArray := by
    have := h2.hd
    unfold blk at this
    exact this
  refine ⟨_, run_copy_rows w t t' ty e g o dLen dCap a sLen sCap size cs0.toArray t0 cs ht hsz hB hn (hr w hw) (by simpa using hfit) h1, ?_⟩
  refine h2.step (setRow_fr w g _) (fun j _ e => by unfold blk; exact e) ?_ (fun j hj => .inl (by unfold blk at hj ⊢; exact hj))
  have hP := setRow_heap w g cs0.toArray (cs0.take o ++ cs ++ cs0.drop (o + cs.length)).toArray t0 (0, 0) hB
  unfold blk
  exact hP
theorem sl_copy_blk (hx : ev l x = some (.slice (some ⟨g, o, none⟩) dLen dCap)) (hp : Pick (blk g t0 cs0) L L') (hy : ev l y = some (.slice (some a) sLen sCap)) (hsz : szOf P e = some size) (ht : P.underlying t = some (.slice e)) (hk : min sLen dLen = kk) (hn : cs.length = kk * size)
    (hr : ∀ w, Sep w L → ∀ j v, cs[j]? = some v → w.cell? (a.add j) = some v) (hfit : o + cs.length ≤ cs0.length) (h1 : ∀ v ∈ cs, v.oneCell' = true) (hd : (match dst with | some d => Nat.blt d n | none => true) = true)
    (h : SL P ops Q rest n (match dst with | some d => (d, goInt kk) :: l | none => l) (blk g t0 (cs0.take o ++ cs ++ cs0.drop (o + cs.length)) :: L')) :
    SL P ops Q (⟨dst, .call { callee := .builtin .copy, args := #[x, y], argTypes := #[t, t'] }, ty, pos, after, none⟩ :: rest) n l L := sl_of fun w hw => WL.mk fun a' hs => by
  obtain ⟨w', hr', hw'⟩ := sep_copy_blk (P := P) (ty := ty) (t' := t') (dCap := dCap) (sCap := sCap) hw hp hsz ht hk hn hr hfit h1
  refine wpList_plain rfl fun K hK => ?_
  unfold Oper.wp
  simp only [execOp, resolve, List.map_toArray, List.map_cons, List.map_nil, hs.ev hx, hs.ev hy]
  simp only [invoke, builtin, Sem.run_bind, Sem.run_pure, Result.andThen_ok, hr']
  cases dst with
  | none => exact hK _ _ ((h.to hw').get hs)
  | some d => exact hK _ _ ((h.to hw').get (hs.put hd _))
theorem sd_copy_blk {S : World → Prop} {need : Nat → Bool} {fuel : Nat} {listed : Array Bool} (j : Nat) (hrd : Region.ready .any ops listed = [j]) (ho : ops[j]? = some ⟨some d, .call { callee := .builtin .copy, args := #[x, y], argTypes := #[t, t'] }, ty, pos, after, none⟩)
    (hx : ev l x = some (.slice (some ⟨g, o, none⟩) dLen dCap)) (hp : Pick (blk g t0 cs0) L L') (hy : ev l y = some (.slice (some a) sLen sCap)) (hsz : szOf P e = some size) (ht : P.underlying t = some (.slice e)) (hk : min sLen dLen = kk) (hn : cs.length = kk * size)
    (hr : ∀ w, Sep w L → ∀ j v, cs[j]? = some v → w.cell? (a.add j) = some v) (hfit : o + cs.length ≤ cs0.length) (h1 : ∀ v ∈ cs, v.oneCell' = true) (hd : Nat.blt d n = true) (hS : ∀ w, Sep w (blk g t0 (cs0.take o ++ cs ++ cs0.drop (o + cs.length)) :: L') → S w)
    (h : SD P ops Q S need fuel (listed.setIfInBounds j true) n ((d, goInt kk) :: l) (blk g t0 (cs0.take o ++ cs ++ cs0.drop (o + cs.length)) :: L')) : SD P ops Q S need (fuel + 1) listed n l L := sd_of fun w hw => by
  obtain ⟨w', hr', hw'⟩ := sep_copy_blk (P := P) (ty := ty) (t' := t') (dCap := dCap) (sCap := sCap) hw hp hsz ht hk hn hr hfit h1
  refine wd_run j hrd ho (v := goInt kk) (w' := w') ?_ hd (fun _ => hS w' hw') (h.to hw')
  unfold Ru
  intro a' _ _ _ _ hs
  simp only [execOp, resolve, List.map_toArray, List.map_cons, List.map_nil, hs.ev hx, hs.ev hy]
  simp only [invoke, builtin, Sem.run_bind, Sem.run_pure, Result.andThen_ok, hr']
/-- A call that panics, where the order is drawn. -/
theorem sd_die (i : Nat) {S : World → Prop} {need : Nat → Bool} {fuel : Nat} {listed : Array Bool} {f : FuncId} {cap : List Value} {zs : List Operand} {vs : List Value} {ats : Array TypeId} {L1 : List Fa} {α : Type} {φ : α → Prop} {cc : α → List PanicEntry} {H : α → List Fa} (hr : Region.ready .any ops listed = [i]) (ho : ops[i]? = some ⟨some d, .call { callee := .value x, args := zs.toArray, argTypes := ats }, ty, pos, after, none⟩)
    (hx : ev l x = some (.func (.func f) #[] cap.toArray)) (hv : evs l zs = some vs) (hf : callable P f = true) (hd : Nat.blt d n = true) (hs : Sub L L1) (hc : Fn P f (vs ++ cap).toArray L1 (Pan φ cc H))
    (h : ∀ a, φ a → SE Q (.panic (cc a)) n l (H a)) : SD P ops Q S need (fuel + 1) listed n l L := sd_of fun w hw => by
  unfold Fn at hc
  unfold SE at h
  exact wd_die i hr ho hx hv hf (hc w (hw.sub hs)) (fun e w' ⟨a, h1, h2, h3⟩ => ⟨_, h2, h a h1 w' h3⟩)
end
section
variable {P : Program} {ops : Array Oper} {Q : Exit → Act → World → Prop} {n : Nat} {l : Env} {L : List Fa} {S : World → Prop} {need : Nat → Bool} {fuel : Nat} {listed : Array Bool} {e t' : TypeId} {size m c g : Nat} {A : Option Addr} {xs : List Value}
theorem sd_know {φ : Prop} (h : ∀ w, Sep w L → φ) (hk : φ → SD P ops Q S need fuel listed n l L) : SD P ops Q S need fuel listed n l L := sd_of fun w hw => (hk (h w hw)).to hw
theorem own_form_at (hp : At (own e size A m c xs) L) (hm : 0 < m) : ∀ w, Sep w L → ∃ g, A = some ⟨g, 0, none⟩ := fun w hw => by
  obtain ⟨g, cap, hv, _, _⟩ := World.ownsRow.form (own_at hw hp) hm
  exact ⟨g, by injection hv⟩
theorem results_cell1 {fn : Func} {p : Tmp} {ty : TypeId} (h : fn.results = #[.cell p ty]) (tmps : Array Value) (P : Program) (w : World) :
    (results fn tmps).run P w = ((asAddr (tmps.getD p undef)).run P w).andThen fun a w₁ => (loadVar ty a).run P w₁ := by
  simp only [results, h]
  simp [Sem.run_bind, Result.andThen]
/-- A result that is a variable in memory. -/
theorem se_ret_c {fn : Func} {α : Type} {φ : α → Prop} {vv : α → Value} {H : α → List Fa} {tp : Nat} {ty : TypeId} {td : TypeDesc} {csx : List Value} (x : α) (hφ : φ x) (hr : fn.results = #[.cell tp ty]) (hv : lk l tp = some (.pointer (some ⟨g, 0, none⟩))) (hb : At (blk g t' csx) L) (hu : P.underlying ty = some td) (hd' : (match td with | .struct _ | .array _ _ => true | _ => false) = true) (hi : szOf P ty = some csx.length)
    (he : vv x = .agg csx.toArray) (hs : Sub L (H x)) : SE (bodyPost P fn (Ret φ vv H)) .ret n l L := se_of fun w hw => WE.mk fun a hs' => by
  refine bodyPost_ret (v := vv x) ?_ hs'.df ⟨x, hφ, rfl, hw.sub hs⟩
  rw [results_cell1 hr, hs'.get hv, he]
  have hB : Blk w g t' csx.toArray := blk_at hw hb
  have hl := run_loadVar_at (P := P) w ⟨g, 0, none⟩ ty csx td (fun j v hj => by
    rw [add_none, Nat.zero_add, hB.cell]
    simpa using hj) hu hd' (by rw [← szOf_eq]; exact hi)
  simp [asAddr, hl]
end
section
variable {P : Program} {ops : Array Oper} {Q : Exit → Act → World → Prop} {n : Nat} {l : Env} {L L' : List Fa} {rest : List Oper} {ty t e : TypeId} {pos : String} {after : Array Edge} {x y : Operand} {g i c size k : Nat} {xs cl : List Value} {v : Value} {w : World} {p : Addr}
theorem sl_sto2 (hx : ev l x = some (.pointer (some p))) (hpe : p = ⟨g, i, none⟩) (hp : Pick (own e size (some ⟨g, 0, none⟩) k c xs) L L') (hy : ev l y = some v) (h1 : v.oneCell' = true) (ht : szOf P t = some 1) (hi : i < k * size)
    (h : SL P ops Q rest n l (own e size (some ⟨g, 0, none⟩) k c (xs.set i v) :: L')) : SL P ops Q (⟨none, .store t x y, ty, pos, after, none⟩ :: rest) n l L := sl_sto (hpe ▸ hx) hp hy h1 ht hi h
theorem sd_sto2 (j : Nat) {S : World → Prop} {need : Nat → Bool} {fuel : Nat} {listed : Array Bool} (hr : Region.ready .any ops listed = [j]) (ho : ops[j]? = some ⟨none, .store t x y, ty, pos, after, none⟩) (hx : ev l x = some (.pointer (some p))) (hpe : p = ⟨g, i, none⟩) (hp : Pick (own e size (some ⟨g, 0, none⟩) k c xs) L L') (hy : ev l y = some v) (h1 : v.oneCell' = true) (ht : szOf P t = some 1) (hi : i < k * size)
    (hS : need j = true → ∀ w, Sep w (own e size (some ⟨g, 0, none⟩) k c (xs.set i v) :: L') → S w) (h : SD P ops Q S need fuel (listed.setIfInBounds j true) n l (own e size (some ⟨g, 0, none⟩) k c (xs.set i v) :: L')) : SD P ops Q S need (fuel + 1) listed n l L := sd_sto j hr ho (hpe ▸ hx) hp hy h1 ht hi hS h
/-- A cell of an owned row, where all of some facts hold. -/
theorem pu_ldoA {L0 : List Fa} {o : Nat} (hb : At (own e size (some ⟨g, 0, none⟩) k c xs) L0) (hk : 0 < k) (hx : ev l x = some (.pointer (some p))) (hpe : p = ⟨g, o, none⟩) (ht : plainT P t = true) (hi : nth xs o = some v) : Pu P (fun W => AllP W L0) n l (.load t x) ty v :=
  pu_load (hpe ▸ hx) ht (fun W hW => by
    have hO : W.ownsRow 0 e size (.slice (some ⟨g, 0, none⟩) k c) k xs := by
      have := hW.at hb
      unfold own at this
      exact this
    obtain ⟨ad, h1, h2⟩ := (Reads.of_own hO).2 hk
    cases h1
    have h3 := h2 o v (by rw [← nth_eq]; exact hi)
    rwa [add_none, Nat.zero_add] at h3)
theorem pu_ldo {o : Nat} (hb : At (own e size (some ⟨g, 0, none⟩) k c xs) L) (hk : 0 < k) (hx : ev l x = some (.pointer (some p))) (hpe : p = ⟨g, o, none⟩) (ht : plainT P t = true) (hi : nth xs o = some v) : Pu P (In L) n l (.load t x) ty v :=
  pu_load (hpe ▸ hx) ht (fun W hW => by
    obtain ⟨ad, h1, h2⟩ := (Reads.of_own (own_at hW hb)).2 hk
    cases h1
    have h3 := h2 o v (by rw [← nth_eq]; exact hi)
    rwa [add_none, Nat.zero_add] at h3)
end
theorem at2 (g a b : Nat) : ((⟨g, 0, none⟩ : Addr).add a).add b = ⟨g, a + b, none⟩ := by rw [add_none, add_none, Nat.zero_add]
theorem at1 (g a : Nat) : (⟨g, 0, none⟩ : Addr).add a = ⟨g, a, none⟩ := by rw [add_none, Nat.zero_add]
theorem map_step {X : Type} (f : X → X) {l : List X} {j : Nat} {x : X} (h : l[j]? = some x) : ((l.take j).map f ++ l.drop j).set j (f x) = (l.take (j + 1)).map f ++ l.drop (j + 1) := by
  obtain ⟨h1, h2⟩ := List.getElem?_eq_some_iff.1 h
  have hl : ((l.take j).map f).length = j := by simp; omega
  rw [List.drop_eq_getElem_cons h1, List.set_append_right _ _ (by omega), hl, Nat.sub_self, List.set_cons_zero, List.take_succ_eq_append_getElem h1, List.map_append, List.append_assoc, h2]
  rfl
theorem map_at {X : Type} (f : X → X) {l : List X} {j : Nat} {x : X} (h : l[j]? = some x) : ((l.take j).map f ++ l.drop j)[j]? = some x := by
  obtain ⟨h1, h2⟩ := List.getElem?_eq_some_iff.1 h
  rw [List.getElem?_append_right (by simp; omega)]
  simp
  rw [show j - min j l.length = 0 from by omega, Nat.add_zero, h]
end Go.Proofs.YtfnjeojaahnlfaaDoor
