/- == on structs, field by field. No program is in sight. -/
import Derived.Test.YtfnjeojaahnlfaaDoorSt
import Derived.Test.YtfnjeojaahnlfaaDoorEq
import Derived.Laws.StructEq
namespace Go.Proofs.YtfnjeojaahnlfaaDoor
open Go.RowKit
section
variable {P : Program} {w : World} {d off k : Nat} {xs ys : List Value} {f : Field} {fs : List Field} {r : Bool}
theorem run_part_cell {t : TypeId} {v : Value} (ht : plainT P t = true) (hx : nth xs off = some v) : (part t xs.toArray off).run P w = .ok v w := by
  obtain ⟨⟨dd, hu, hagg⟩, _⟩ := plainT_spec ht
  unfold part
  rw [Sem.run_bind, hagg w, Result.andThen_ok]
  have : xs[off]? = some v := by rw [← nth_eq]; exact hx
  simp [this]
theorem run_part_mid {t : TypeId} {td : TypeDesc} {cl : List Value} (hu : P.underlying t = some td) (hd : (match td with | .struct _ | .array _ _ => true | _ => false) = true) (hs : szOf P t = some cl.length) (hm : Mid xs off cl) : (part t xs.toArray off).run P w = .ok (.agg cl.toArray) w := by
  have hagg : (isAgg t).run P w = .ok true w := by
    unfold isAgg
    rw [Sem.run_bind, run_underlying hu w]
    cases td <;> simp_all
  have he : (xs.drop off).take cl.length = cl := by
    apply List.ext_getElem?
    intro j
    rw [List.getElem?_take, List.getElem?_drop]
    split
    · rename_i hj
      rw [List.getElem?_eq_getElem hj]
      exact hm j _ (List.getElem?_eq_getElem hj)
    · rw [List.getElem?_eq_none (by omega)]
  unfold part
  rw [Sem.run_bind, hagg, Result.andThen_ok]
  simp [run_size hs, he]
theorem eqF_nil : (Op.eqFields d xs.toArray ys.toArray []).run P w = .ok true w := rfl
theorem eqF_step {a b : Value} {q : Bool} (hn : f.name ≠ "_") (hx : (part f.type xs.toArray f.offset).run P w = .ok a w) (hy : (part f.type ys.toArray f.offset).run P w = .ok b w) (he : (Op.equalIn d f.type a b).run P w = .ok q w) (hr : (Op.eqFields d xs.toArray ys.toArray fs).run P w = .ok r w) :
    (Op.eqFields d xs.toArray ys.toArray (f :: fs)).run P w = .ok (q && r) w := by
  unfold Op.eqFields
  rw [if_pos hn, Sem.run_bind, hx, Result.andThen_ok, Sem.run_bind, hy, Result.andThen_ok, Sem.run_bind, he, Result.andThen_ok]
  cases q with
  | true => simpa using hr
  | false => rfl
theorem eqF_int {kk kk' : IntKind} {a b : Int} (hn : f.name ≠ "_") (ht : plainT P f.type = true) (hu : P.underlying f.type = some (.int kk')) (hx : nth xs f.offset = some (.int kk a)) (hy : nth ys f.offset = some (.int kk b)) (hr : (Op.eqFields (d + 1) xs.toArray ys.toArray fs).run P w = .ok r w) :
    (Op.eqFields (d + 1) xs.toArray ys.toArray (f :: fs)).run P w = .ok (decide (a = b) && r) w := by
  refine eqF_step hn (run_part_cell ht hx) (run_part_cell ht hy) ?_ hr
  rw [run_equalIn_int w d f.type kk kk' a b hu]
  congr 1
theorem eqF_bool {a b : Bool} (hn : f.name ≠ "_") (ht : plainT P f.type = true) (hu : P.underlying f.type = some .bool) (hx : nth xs f.offset = some (.bool a)) (hy : nth ys f.offset = some (.bool b)) (hr : (Op.eqFields (d + 1) xs.toArray ys.toArray fs).run P w = .ok r w) :
    (Op.eqFields (d + 1) xs.toArray ys.toArray (f :: fs)).run P w = .ok (decide (a = b) && r) w := by
  refine eqF_step hn (run_part_cell ht hx) (run_part_cell ht hy) ?_ hr
  rw [run_equalIn_bool' w d f.type a b hu]
  congr 1
theorem eqF_arr {e : TypeId} {n : Nat} {us vs : List Int} (hn : f.name ≠ "_") (hu : P.underlying f.type = some (.array n e)) (he : P.underlying e = some (.int .u8)) (hz : szOf P e = some 1) (hs : szOf P f.type = some n) (hx : Mid xs f.offset (bytes us)) (hy : Mid ys f.offset (bytes vs)) (hla : us.length = n) (hlb : vs.length = n) (ha : IsBytes us) (hb : IsBytes vs)
    (hr : (Op.eqFields (d + 2) xs.toArray ys.toArray fs).run P w = .ok r w) : (Op.eqFields (d + 2) xs.toArray ys.toArray (f :: fs)).run P w = .ok (decide (us = vs) && r) w := by
  refine eqF_step hn (run_part_mid hu rfl (by rw [hs]; simp [bytes, hla]) hx) (run_part_mid hu rfl (by rw [hs]; simp [bytes, hlb]) hy) ?_ hr
  rw [u8s_cell ha, u8s_cell hb, run_equalIn_bytes w d f.type e n hu he (run_size hz) _ _ (by simp [u8s, hla]) (by simp [u8s, hlb]), u8s_eq ha hb]
theorem pu_eqs {C : World → Prop} {n : Nat} {l : Env} {ty t t' : TypeId} {x y : Operand} {q : Bool} (hx : ev l x = some (.agg xs.toArray)) (hy : ev l y = some (.agg ys.toArray)) (ht : P.underlying t = some (.struct fs.toArray)) (hs : P.stoodInHeld t = false) (hg : P.eqGuardType P.depth t = false) (hr : ∀ w, (Op.eqFields 9999 xs.toArray ys.toArray fs).run P w = .ok q w) :
    Pu P C n l (.binOp .eql t x y t') ty (.bool q) := by
  have hf : P.fieldsOf t = fs.toArray := by simp [Program.fieldsOf, ht]
  unfold Pu
  intro a _ _ _ _ W hs' _
  simp only [execOp, hs'.ev hx, hs'.ev hy]
  rw [Sem.run_bind, Sem.run_bind, run_eqGuard_agg (P := P) W _ t x y _ _ hg, Result.andThen_ok, run_eql_struct, run_equalIn_struct W 9999 t _ _ (by rw [hf]; exact ht) hs, hf]
  rw [show (fs.toArray).toList = fs from by simp, hr W]
  rfl
theorem pu_neqs {C : World → Prop} {n : Nat} {l : Env} {ty t t' : TypeId} {x y : Operand} {q : Bool} (hx : ev l x = some (.agg xs.toArray)) (hy : ev l y = some (.agg ys.toArray)) (ht : P.underlying t = some (.struct fs.toArray)) (hs : P.stoodInHeld t = false) (hg : P.eqGuardType P.depth t = false) (hr : ∀ w, (Op.eqFields 9999 xs.toArray ys.toArray fs).run P w = .ok q w) :
    Pu P C n l (.binOp .neq t x y t') ty (.bool (!q)) := by
  have hf : P.fieldsOf t = fs.toArray := by simp [Program.fieldsOf, ht]
  unfold Pu
  intro a _ _ _ _ W hs' _
  simp only [execOp, hs'.ev hx, hs'.ev hy]
  rw [Sem.run_bind, Sem.run_bind, run_eqGuard_agg (P := P) W _ t x y _ _ hg, Result.andThen_ok, run_neq_struct, run_equalIn_struct W 9999 t _ _ (by rw [hf]; exact ht) hs, hf]
  rw [show (fs.toArray).toList = fs from by simp, hr W]
  rfl
end

/-! A struct or an array stored into a part of a block; one cell of a symbolic block. -/
theorem setCells_mid {g : Nat} {t : TypeId} : ∀ (vs : List Value) (o : Nat) (w : World) (cur : List Value), Blk w g t cur.toArray → o + vs.length ≤ cur.length → Blk (w.setCells g o vs) g t (cur.take o ++ vs ++ cur.drop (o + vs.length)).toArray
  | [], o, w, cur, h, _ => by
    simpa [World.setCells] using h
  | v :: r, o, w, cur, h, ho => by
    rw [List.length_cons] at ho
    have h0 : Blk (w.setCell ⟨g, o, none⟩ v) g t (cur.set o v).toArray := by simpa using h.set_ o v
    have h1 := setCells_mid r (o + 1) _ (cur.set o v) h0 (by rw [List.length_set]; omega)
    have e : (cur.set o v).take (o + 1) ++ r ++ (cur.set o v).drop (o + 1 + r.length) = cur.take o ++ (v :: r) ++ cur.drop (o + (v :: r).length) := by
      rw [List.take_set, List.take_succ_eq_append_getElem (by omega), List.set_append_right _ _ (by simp; omega), List.drop_set_of_lt (by omega)]
      simp only [List.length_take, List.length_cons]
      rw [Nat.min_eq_left (by omega), Nat.sub_self]
      simp
      congr 1
      omega
    rw [e] at h1
    exact h1
theorem sl_store_mid {P : Program} {ops : Array Oper} {Q : Exit → Act → World → Prop} {n : Nat} {l : Env} {L L' : List Fa} {rest : List Oper} {t t' ty : TypeId} {pos : String} {after : Array Edge} {x y : Operand} {g o : Nat} {cs cl : List Value} (hx : ev l x = some (.pointer (some ⟨g, o, none⟩))) (hp : Pick (blk g t' cs) L L') (hy : ev l y = some (.agg cl.toArray)) (hi : szOf P t = some cl.length) (hc : o + cl.length ≤ cs.length) (h1 : ∀ v ∈ cl, v.oneCell' = true)
    (h : SL P ops Q rest n l (blk g t' (cs.take o ++ cl ++ cs.drop (o + cl.length)) :: L')) : SL P ops Q (⟨none, .store t x y, ty, pos, after, none⟩ :: rest) n l L := sl_of fun w hw => WL.mk fun a hs => by
  have h2 := hw.pick hp
  have hb : Blk w g t' cs.toArray := by
    have := h2.hd
    unfold blk at this
    exact this
  have hB := setCells_mid cl o w cs hb hc
  refine wpList_store_mid rfl t x y rfl g o cl.toArray (hs.ev hx) (hs.ev hy) (fun j hj => ⟨by rw [hb.cell, Array.getElem?_eq_getElem (by simp at hj ⊢; omega)]; rfl, hb.frozen _⟩) (by rw [← szOf_eq]; simpa using hi) (all_oneCell_toArray h1) ?_
  refine (h.to (h2.step (f := blk g t' cs) (setCells_fr _ _ _) (fun k _ e => by unfold blk; exact e) ?_ (fun k e => .inl (by unfold blk at e ⊢; exact e)))).get hs
  unfold blk
  simpa using hB
theorem SetAt.tail {a b : List Value} {i k : Nat} {v : Value} {r : List Value} (hk : a.length = k) (h : SetAt i v b r) : SetAt (k + i) v (a ++ b) (a ++ r) := by
  subst hk
  induction a with
  | nil => simpa using h
  | cons x a ih =>
    rw [List.length_cons, Nat.add_right_comm]
    exact SetAt.there ih
end Go.Proofs.YtfnjeojaahnlfaaDoor
