/- Several texts of one claim, one behind the other (Ro1, Es, Un1). -/
import Derived.Test.YtlfmpjojdhfflaaB11
import Derived.Test.YtlfmpjojdhfflaaB05
import Derived.Test.YtlfmpjojdhfflaaB03
import Derived.Laws.StructEq
set_option linter.unusedVariables false
/- ReplayOnce. -/
namespace Go.Proofs.Ytlfmpjojdhfflaa
open Go.RowKit
attribute [local irreducible] Go.Calls Go.Exit.then Go.Exit.inBlock Go.bodyPost Go.Code.wp Go.wpList

/-! An index with one more. -/
theorem tw_take (p : Seen → Bool) : ∀ (ss : List Seen) (s : Seen), s ∈ ss.take (ss.takeWhile p).length → p s = true
  | [], s, h => by simp at h
  | a :: r, s, h => by
    by_cases hp : p a = true
    · rw [List.takeWhile_cons_of_pos hp, List.length_cons, List.take_succ_cons] at h
      rcases List.mem_cons.1 h with e | e
      · rw [e]
        exact hp
      · exact tw_take p r s e
    · rw [List.takeWhile_cons_of_neg hp] at h
      simp at h
theorem tw_next (p : Seen → Bool) : ∀ (ss : List Seen) (u : Seen), ss[(ss.takeWhile p).length]? = some u → p u = false
  | [], u, h => by simp at h
  | a :: r, u, h => by
    by_cases hp : p a = true
    · rw [List.takeWhile_cons_of_pos hp, List.length_cons, List.getElem?_cons_succ] at h
      exact tw_next p r u h
    · rw [List.takeWhile_cons_of_neg hp] at h
      simp at h
      subst h
      simpa using hp
theorem before_lt {ss : List Seen} {id : Id} {s : Seen} (h : s ∈ ss.take (posI ss id)) : cmpI s.id.l id.l < 0 := by
  simpa using tw_take (fun s => decide (cmpI s.id.l id.l < 0)) ss s h
theorem behind_gt {ss : List Seen} {id : Id} {s : Seen} (hs : Srt ss) (hh : hasI ss id = false) (h : s ∈ ss.drop (posI ss id)) : cmpI id.l s.id.l < 0 := by
  obtain ⟨k, hk⟩ := List.getElem?_of_mem h
  rw [List.getElem?_drop] at hk
  have hk0 := (List.getElem?_eq_some_iff.1 hk).1
  obtain ⟨u, hu⟩ : ∃ u, ss[posI ss id]? = some u := ⟨_, List.getElem?_eq_getElem (by omega)⟩
  have hnl : ¬ cmpI u.id.l id.l < 0 := by
    have := tw_next (fun s => decide (cmpI s.id.l id.l < 0)) ss u hu
    simpa using this
  have hne : cmpI u.id.l id.l ≠ 0 := by
    intro he
    unfold hasI at hh
    rw [List.any_eq_false] at hh
    exact hh u (List.mem_of_getElem? hu) (by simpa using he)
  have h1 : cmpI id.l u.id.l < 0 := by
    have := cmpI_swap u.id.l id.l
    omega
  rcases Nat.eq_zero_or_pos k with h0 | h0
  · subst h0
    rw [Nat.add_zero, hu] at hk
    injection hk with hk
    subst hk
    exact h1
  · exact cmpI_trans h1 (hs.lt (show posI ss id < posI ss id + k by omega) hu hk)
theorem srt_ins {ss : List Seen} {s : Seen} (hs : Srt ss) (hh : hasI ss s.id = false) : Srt (insAt ss s) := by
  unfold insAt Srt
  rw [List.pairwise_append, List.pairwise_cons]
  refine ⟨hs.sublist (List.take_sublist _ _), ⟨fun u hu => behind_gt hs hh hu, hs.sublist (List.drop_sublist _ _)⟩, fun a ha b hb => ?_⟩
  rcases List.mem_cons.1 hb with e | e
  · subst e
    exact before_lt ha
  · exact cmpI_trans (before_lt ha) (behind_gt hs hh e)
theorem has_ins (ss : List Seen) (s : Seen) (id : Id) : hasI (insAt ss s) id = (hasI ss id || decide (cmpI s.id.l id.l = 0)) := by
  unfold hasI insAt
  rw [List.any_append, List.any_cons]
  conv => rhs; rw [← List.take_append_drop (posI ss s.id) ss, List.any_append]
  rw [Bool.or_assoc, Bool.or_comm (decide _), ← Bool.or_assoc]

def mkS (id : Id) : Seen := ⟨id, 0, 0, by decide, by decide⟩
def onceL (ids : List Id) : List Seen := ids.foldl (fun ss id => if hasI ss id then ss else insAt ss (mkS id)) []
theorem onceL_snoc (l : List Id) (id : Id) : onceL (l ++ [id]) = if hasI (onceL l) id then onceL l else insAt (onceL l) (mkS id) := by
  unfold onceL
  rw [List.foldl_append]
  rfl
theorem once_inv : ∀ (n : Nat) (l : List Id), l.length = n → Srt (onceL l) ∧ (onceL l).length ≤ n ∧ ∀ id ∈ l, hasI (onceL l) id = true
  | 0, l, h => by
    obtain rfl := List.eq_nil_of_length_eq_zero h
    exact ⟨srt_nil, Nat.le_refl _, fun _ h => by cases h⟩
  | n + 1, l, h => by
    obtain ⟨l', a, rfl⟩ : ∃ l' a, l = l' ++ [a] := ⟨l.dropLast, l.getLast (fun e => by rw [e] at h; simp at h), (List.dropLast_concat_getLast _).symm⟩
    obtain ⟨h1, h2, h3⟩ := once_inv n l' (by simpa using h)
    rw [onceL_snoc]
    by_cases hh : hasI (onceL l') a = true
    · rw [if_pos hh]
      refine ⟨h1, by omega, fun id hid => ?_⟩
      rcases List.mem_append.1 hid with e | e
      · exact h3 id e
      · have := List.mem_singleton.1 e
        subst this
        exact hh
    · rw [if_neg hh]
      have hf : hasI (onceL l') a = false := by simpa using hh
      refine ⟨srt_ins h1 hf, by rw [insAt_len]; omega, fun id hid => ?_⟩
      rw [has_ins]
      rcases List.mem_append.1 hid with e | e
      · rw [h3 id e]
        rfl
      · have := List.mem_singleton.1 e
        subst this
        have : cmpI (mkS id).id.l id.l = 0 := cmpI_self _
        simp [this]
theorem add_mkS {ss : List Seen} {id : Id} (hn : ss.length ≤ 100) : addI 256 ss (mkS id) = if hasI ss id then (14, ss) else (0, insAt ss (mkS id)) := by
  unfold addI
  rw [if_neg (by simp [mkS])]
  have : (mkS id).id = id := rfl
  rw [this]
  split
  · rfl
  · rw [if_neg (by omega)]
theorem list16 {cs : List Value} (h : cs.length = 16) : ∃ a0 a1 a2 a3 a4 a5 a6 a7 a8 a9 a10 a11 a12 a13 a14 a15, cs = [a0, a1, a2, a3, a4, a5, a6, a7, a8, a9, a10, a11, a12, a13, a14, a15] := by
  match cs, h with
  | [a0, a1, a2, a3, a4, a5, a6, a7, a8, a9, a10, a11, a12, a13, a14, a15], _ => exact ⟨a0, a1, a2, a3, a4, a5, a6, a7, a8, a9, a10, a11, a12, a13, a14, a15, rfl⟩
theorem build_16 (a0 a1 a2 a3 a4 a5 a6 a7 a8 a9 a10 a11 a12 a13 a14 a15 : Value) (W : World) : (Instr.build 33 #[(0, .agg #[a0, a1, a2, a3, a4, a5, a6, a7, a8, a9, a10, a11, a12, a13, a14, a15])]).run Try.prog W = .ok (.agg #[a0, a1, a2, a3, a4, a5, a6, a7, a8, a9, a10, a11, a12, a13, a14, a15, .int .u64 0, .int .i64 0]) W := by kernel_rfl
theorem build_mk (id : Id) (W : World) : (Instr.build 33 #[(0, id.v)]).run Try.prog W = .ok (mkS id).v W := by
  have hl : (bytes id.l).length = 16 := by rw [bytes_length, id.len]
  have hc : (mkS id).v = .agg (bytes id.l ++ [Value.int .u64 0, Value.int .i64 0]).toArray := rfl
  rw [hc]
  show (Instr.build _ #[(0, Value.agg (bytes id.l).toArray)]).run _ W = _
  generalize bytes id.l = cs at *
  obtain ⟨a0, a1, a2, a3, a4, a5, a6, a7, a8, a9, a10, a11, a12, a13, a14, a15, rfl⟩ := list16 hl
  exact build_16 a0 a1 a2 a3 a4 a5 a6 a7 a8 a9 a10 a11 a12 a13 a14 a15 W
end Go.Proofs.Ytlfmpjojdhfflaa
/- == on structs, field by field. No program is in sight. -/
namespace Go.Proofs.Ytlfmpjojdhfflaa
open Go.RowKit
section
variable {P : Program} {w : World} {d off k : Nat} {xs ys : List Value} {f : Field} {fs : List Field} {r : Bool}
theorem run_part_cell {t : TypeId} {v : Value} (ht : plainT P t = true) (hx : nth xs off = some v) : (part t xs.toArray off).run P w = .ok v w := by
  obtain ⟨⟨dd, hu, hagg⟩, _⟩ := plainT_spec ht
  unfold part
  rw [Sem.run_bind, hagg w, Result.andThen_ok]
  have : xs[off]? = some v := by rw [← nth_eq]; exact hx
  simp [this]
theorem run_part_mid {t : TypeId} {td : TypeDesc} {cl : List Value} (hu : P.underlying t = some td) (hd : (match td with | .struct _ | .array _ _ => true | _ => false) = true) (hs : szOf P t = some cl.length) (hm : Mid xs off cl) : (part t xs.toArray off).run P w = .ok (.agg cl.toArray) w := by
  have hagg : (isAgg t).run P w = .ok true w := by
    unfold isAgg
    rw [Sem.run_bind, run_underlying hu w]
    cases td <;> simp_all
  have he : (xs.drop off).take cl.length = cl := by
    apply List.ext_getElem?
    intro j
    rw [List.getElem?_take, List.getElem?_drop]
    split
    · rename_i hj
      rw [List.getElem?_eq_getElem hj]
      exact hm j _ (List.getElem?_eq_getElem hj)
    · rw [List.getElem?_eq_none (by omega)]
  unfold part
  rw [Sem.run_bind, hagg, Result.andThen_ok]
  simp [run_size hs, he]
theorem eqF_nil : (Op.eqFields d xs.toArray ys.toArray []).run P w = .ok true w := rfl
theorem eqF_step {a b : Value} {q : Bool} (hn : f.name ≠ "_") (hx : (part f.type xs.toArray f.offset).run P w = .ok a w) (hy : (part f.type ys.toArray f.offset).run P w = .ok b w) (he : (Op.equalIn d f.type a b).run P w = .ok q w) (hr : (Op.eqFields d xs.toArray ys.toArray fs).run P w = .ok r w) :
    (Op.eqFields d xs.toArray ys.toArray (f :: fs)).run P w = .ok (q && r) w := by
  unfold Op.eqFields
  rw [if_pos hn, Sem.run_bind, hx, Result.andThen_ok, Sem.run_bind, hy, Result.andThen_ok, Sem.run_bind, he, Result.andThen_ok]
  cases q with
  | true => simpa using hr
  | false => rfl
theorem eqF_int {kk kk' : IntKind} {a b : Int} (hn : f.name ≠ "_") (ht : plainT P f.type = true) (hu : P.underlying f.type = some (.int kk')) (hx : nth xs f.offset = some (.int kk a)) (hy : nth ys f.offset = some (.int kk b)) (hr : (Op.eqFields (d + 1) xs.toArray ys.toArray fs).run P w = .ok r w) :
    (Op.eqFields (d + 1) xs.toArray ys.toArray (f :: fs)).run P w = .ok (decide (a = b) && r) w := by
  refine eqF_step hn (run_part_cell ht hx) (run_part_cell ht hy) ?_ hr
  rw [run_equalIn_int w d f.type kk kk' a b hu]
  congr 1
theorem eqF_bool {a b : Bool} (hn : f.name ≠ "_") (ht : plainT P f.type = true) (hu : P.underlying f.type = some .bool) (hx : nth xs f.offset = some (.bool a)) (hy : nth ys f.offset = some (.bool b)) (hr : (Op.eqFields (d + 1) xs.toArray ys.toArray fs).run P w = .ok r w) :
    (Op.eqFields (d + 1) xs.toArray ys.toArray (f :: fs)).run P w = .ok (decide (a = b) && r) w := by
  refine eqF_step hn (run_part_cell ht hx) (run_part_cell ht hy) ?_ hr
  rw [run_equalIn_bool' w d f.type a b hu]
  congr 1
theorem eqF_arr {e : TypeId} {n : Nat} {us vs : List Int} (hn : f.name ≠ "_") (hu : P.underlying f.type = some (.array n e)) (he : P.underlying e = some (.int .u8)) (hz : szOf P e = some 1) (hs : szOf P f.type = some n) (hx : Mid xs f.offset (bytes us)) (hy : Mid ys f.offset (bytes vs)) (hla : us.length = n) (hlb : vs.length = n) (ha : IsBytes us) (hb : IsBytes vs)
    (hr : (Op.eqFields (d + 2) xs.toArray ys.toArray fs).run P w = .ok r w) : (Op.eqFields (d + 2) xs.toArray ys.toArray (f :: fs)).run P w = .ok (decide (us = vs) && r) w := by
  refine eqF_step hn (run_part_mid hu rfl (by rw [hs]; simp [bytes, hla]) hx) (run_part_mid hu rfl (by rw [hs]; simp [bytes, hlb]) hy) ?_ hr
  rw [u8s_cell ha, u8s_cell hb, run_equalIn_bytes w d f.type e n hu he (run_size hz) _ _ (by simp [u8s, hla]) (by simp [u8s, hlb]), u8s_eq ha hb]
theorem pu_eqs {C : World → Prop} {n : Nat} {l : Env} {ty t t' : TypeId} {x y : Operand} {q : Bool} (hx : ev l x = some (.agg xs.toArray)) (hy : ev l y = some (.agg ys.toArray)) (ht : P.underlying t = some (.struct fs.toArray)) (hs : P.stoodInHeld t = false) (hg : P.eqGuardType P.depth t = false) (hr : ∀ w, (Op.eqFields 9999 xs.toArray ys.toArray fs).run P w = .ok q w) :
    Pu P C n l (.binOp .eql t x y t') ty (.bool q) := by
  have hf : P.fieldsOf t = fs.toArray := by simp [Program.fieldsOf, ht]
  unfold Pu
  intro a _ _ _ _ W hs' _
  simp only [execOp, hs'.ev hx, hs'.ev hy]
  rw [Sem.run_bind, Sem.run_bind, run_eqGuard_agg (P := P) W _ t x y _ _ hg, Result.andThen_ok, run_eql_struct, run_equalIn_struct W 9999 t _ _ (by rw [hf]; exact ht) hs, hf]
  rw [show (fs.toArray).toList = fs from by simp, hr W]
  rfl
theorem pu_neqs {C : World → Prop} {n : Nat} {l : Env} {ty t t' : TypeId} {x y : Operand} {q : Bool} (hx : ev l x = some (.agg xs.toArray)) (hy : ev l y = some (.agg ys.toArray)) (ht : P.underlying t = some (.struct fs.toArray)) (hs : P.stoodInHeld t = false) (hg : P.eqGuardType P.depth t = false) (hr : ∀ w, (Op.eqFields 9999 xs.toArray ys.toArray fs).run P w = .ok q w) :
    Pu P C n l (.binOp .neq t x y t') ty (.bool (!q)) := by
  have hf : P.fieldsOf t = fs.toArray := by simp [Program.fieldsOf, ht]
  unfold Pu
  intro a _ _ _ _ W hs' _
  simp only [execOp, hs'.ev hx, hs'.ev hy]
  rw [Sem.run_bind, Sem.run_bind, run_eqGuard_agg (P := P) W _ t x y _ _ hg, Result.andThen_ok, run_neq_struct, run_equalIn_struct W 9999 t _ _ (by rw [hf]; exact ht) hs, hf]
  rw [show (fs.toArray).toList = fs from by simp, hr W]
  rfl
end

/-! A struct or an array stored into a part of a block; one cell of a symbolic block. -/
theorem setCells_mid {g : Nat} {t : TypeId} : ∀ (vs : List Value) (o : Nat) (w : World) (cur : List Value), Blk w g t cur.toArray → o + vs.length ≤ cur.length → Blk (w.setCells g o vs) g t (cur.take o ++ vs ++ cur.drop (o + vs.length)).toArray
  | [], o, w, cur, h, _ => by
    simpa [World.setCells] using h
  | v :: r, o, w, cur, h, ho => by
    rw [List.length_cons] at ho
    have h0 : Blk (w.setCell ⟨g, o, none⟩ v) g t (cur.set o v).toArray := by simpa using h.set_ o v
    have h1 := setCells_mid r (o + 1) _ (cur.set o v) h0 (by rw [List.length_set]; omega)
    have e : (cur.set o v).take (o + 1) ++ r ++ (cur.set o v).drop (o + 1 + r.length) = cur.take o ++ (v :: r) ++ cur.drop (o + (v :: r).length) := by
      rw [List.take_set, List.take_succ_eq_append_getElem (by omega), List.set_append_right _ _ (by simp; omega), List.drop_set_of_lt (by omega)]
      simp only [List.length_take, List.length_cons]
      rw [Nat.min_eq_left (by omega), Nat.sub_self]
      simp
      congr 1
      omega
    rw [e] at h1
    exact h1
theorem sl_store_mid {P : Program} {ops : Array Oper} {Q : Exit → Act → World → Prop} {n : Nat} {l : Env} {L L' : List Fa} {rest : List Oper} {t t' ty : TypeId} {pos : String} {after : Array Edge} {x y : Operand} {g o : Nat} {cs cl : List Value} (hx : ev l x = some (.pointer (some ⟨g, o, none⟩))) (hp : Pick (blk g t' cs) L L') (hy : ev l y = some (.agg cl.toArray)) (hi : szOf P t = some cl.length) (hc : o + cl.length ≤ cs.length) (h1 : ∀ v ∈ cl, v.oneCell' = true)
    (h : SL P ops Q rest n l (blk g t' (cs.take o ++ cl ++ cs.drop (o + cl.length)) :: L')) : SL P ops Q (⟨none, .store t x y, ty, pos, after, none⟩ :: rest) n l L := sl_of fun w hw => WL.mk fun a hs => by
  have h2 := hw.pick hp
  have hb : Blk w g t' cs.toArray := by
    have := h2.hd
    unfold blk at this
    exact this
  have hB := setCells_mid cl o w cs hb hc
  refine wpList_store_mid rfl t x y rfl g o cl.toArray (hs.ev hx) (hs.ev hy) (fun j hj => ⟨by rw [hb.cell, Array.getElem?_eq_getElem (by simp at hj ⊢; omega)]; rfl, hb.frozen _⟩) (by rw [← szOf_eq]; simpa using hi) (all_oneCell_toArray h1) ?_
  refine (h.to (h2.step (f := blk g t' cs) (setCells_fr _ _ _) (fun k _ e => by unfold blk; exact e) ?_ (fun k e => .inl (by unfold blk at e ⊢; exact e)))).get hs
  unfold blk
  simpa using hB
theorem SetAt.tail {a b : List Value} {i k : Nat} {v : Value} {r : List Value} (hk : a.length = k) (h : SetAt i v b r) : SetAt (k + i) v (a ++ b) (a ++ r) := by
  subst hk
  induction a with
  | nil => simpa using h
  | cons x a ih =>
    rw [List.length_cons, Nat.add_right_comm]
    exact SetAt.there ih
end Go.Proofs.Ytlfmpjojdhfflaa
/- The law's own list: insert, same, has. -/
namespace Go.Proofs.Ytlfmpjojdhfflaa
open Go.RowKit
attribute [local irreducible] Go.Calls Go.Exit.then Go.Exit.inBlock Go.bodyPost Go.Code.wp Go.wpList

theorem seen_dec (a b : Seen) (q : Bool) (h : q = (decide (a.id.l = b.id.l) && (decide (a.t = b.t) && (decide (a.c = b.c) && true)))) : (q = true ↔ a = b) := by
  subst h
  simp only [Bool.and_true, Bool.and_eq_true, decide_eq_true_eq]
  constructor
  · rintro ⟨h1, h2, h3⟩
    exact Seen.ext_ h1 h2 h3
  · rintro rfl
    exact ⟨rfl, rfl, rfl⟩
instance : DecidableEq Seen := fun a b => if h : a.id.l = b.id.l ∧ a.t = b.t ∧ a.c = b.c then .isTrue (Seen.ext_ h.1 h.2.1 h.2.2) else .isFalse (fun e => h (by subst e; exact ⟨rfl, rfl, rfl⟩))
section
variable {C : World → Prop} {n : Nat} {l : Env} {ty t' : TypeId} {x y : Operand} {a b : Seen}
theorem pu_seen_eql (hx : ev l x = some a.v) (hy : ev l y = some b.v) : Pu Try.prog C n l (.binOp .eql 33 x y t') ty (.bool (decide (a = b))) := by
  have hq : decide (a = b) = (decide (a.id.l = b.id.l) && (decide (a.t = b.t) && (decide (a.c = b.c) && true))) := by
    rw [Bool.eq_iff_iff, seen_dec a b _ rfl, decide_eq_true_eq]
  rw [hq]
  refine pu_eqs hx hy Try.underlying33 (by kernel_rfl) (by kernel_rfl) (fun w => ?_)
  refine eqF_arr (e := 5) (n := 16) (by decide) rfl rfl rfl (by kernel_rfl) a.mid b.mid a.id.len b.id.len a.id.ok b.id.ok ?_
  refine eqF_int (by decide) rfl rfl a.nt b.nt ?_
  exact eqF_int (by decide) rfl rfl a.nc b.nc rfl
theorem pu_seen_neq (hx : ev l x = some a.v) (hy : ev l y = some b.v) : Pu Try.prog C n l (.binOp .neq 33 x y t') ty (.bool (!decide (a = b))) := by
  have hq : decide (a = b) = (decide (a.id.l = b.id.l) && (decide (a.t = b.t) && (decide (a.c = b.c) && true))) := by
    rw [Bool.eq_iff_iff, seen_dec a b _ rfl, decide_eq_true_eq]
  rw [hq]
  refine pu_neqs hx hy Try.underlying33 (by kernel_rfl) (by kernel_rfl) (fun w => ?_)
  refine eqF_arr (e := 5) (n := 16) (by decide) rfl rfl rfl (by kernel_rfl) a.mid b.mid a.id.len b.id.len a.id.ok b.id.ok ?_
  refine eqF_int (by decide) rfl rfl a.nt b.nt ?_
  exact eqF_int (by decide) rfl rfl a.nc b.nc rfl
end

set_option maxRecDepth 100000 in
set_option maxHeartbeats 2000000 in
theorem same_ok {K : List Fa} {A B : Option Addr} {c d : Nat} {xs ys : List Seen} (hx : Vw K (fun w => Reads w 18 A xs.length (rows Seen.cells xs))) (hy : Vw K (fun w => Reads w 18 B ys.length (rows Seen.cells ys))) (hn : xs.length ≤ 1000000) (hm : ys.length ≤ 1000000) :
    Fn Try.prog 20 #[.slice A xs.length c, .slice B ys.length d] K (Ret (fun _ : Unit => True) (fun _ => .bool (decide (xs = ys))) (fun _ => K)) := by
  refine fn_enter Try.func20 rfl _ Try.ntmps20 (by simp) [(0, .slice A xs.length c), (1, .slice B ys.length d)] (args_of (by simp)) ?_
  by_cases hl : xs.length = ys.length
  · (repeat (first | (first | refine sl_pu (PuI.sep ((by (constructor; (repeat (first | rfl | exact .t | exact .f | exact .t (by omega) | exact .f (by omega) | exact .u | exact .i (by (first | exact .t (by omega) | exact .f (by omega) | exact .u | exact .i (by omega) | exact .v (by omega) | exact .b (by omega) | exact .w | rfl | omega)) | exact .v (by omega) | exact .b (by omega) | exact .q (by omega) | exact .w | exact .b (by ((repeat (first | exact At.here | assumption | refine At.there ?_)); first | done | fail)) rfl (by (first | rfl | first | exact Seen.nt _ | exact Seen.nc _)) | exact .w (by ((repeat (first | exact At.here | assumption | refine At.there ?_)); first | done | fail)) rfl rfl (by (first | rfl | (simp only [Seen.len, bytes_length, Id.len]; rfl; first | done | fail))) | exact .s (by ((repeat (first | exact At.here | assumption | refine At.there ?_)); first | done | fail)) (by (first | first | exact Seen.mid _ | exact Mid.all | exact Mid.head)) rfl rfl (by (first | rfl | (simp only [Seen.len, bytes_length, Id.len]; rfl; first | done | fail))) | exact .z rfl rfl ⟨by kernel_rfl⟩ | exact .b rfl rfl ⟨by kernel_rfl⟩ | exact .a rfl rfl ⟨by kernel_rfl⟩ | exact .o rfl | exact .s | exact .n | exact .p rfl | exact .q rfl | exact .c rfl | exact .d rfl | exact .n rfl rfl (by omega) | exact .a rfl rfl (by omega) | exact .p rfl rfl (by omega) (by omega) | exact .y rfl rfl (by omega) (by omega) | exact .o (by ((repeat (first | exact At.here | assumption | refine At.there ?_)); first | done | fail)) (by omega) rfl (by (first | rfl | first | exact Seen.nt _ | exact Seen.nc _)) | exact .m (by ((repeat (first | exact At.here | assumption | refine At.there ?_)); first | done | fail)) (by omega) (by (first | first | exact Seen.mid _ | exact Mid.all | exact Mid.head)) rfl rfl (by (first | rfl | (simp only [Seen.len, bytes_length, Id.len]; rfl; first | done | fail))) | exact .mlen (by ((repeat (first | exact At.here | assumption | refine At.there ?_)); first | done | fail)) rfl | exact .r rfl rfl | exact .h rfl rfl rfl (by omega) | exact .l rfl rfl rfl (by omega) (by omega) | exact .g rfl rfl rfl rfl (by omega) (by omega) | exact .o (by decide) | exact .f (by decide) | exact .n (by omega) (by first | decide | (show _ ≤ ((64 : Nat) : Int); omega)) | (constructor; (repeat (first | exact .t (by omega) | exact .f (by omega) | exact .u | exact .i (by omega) | exact .v (by omega) | exact .b (by omega) | exact .w | rfl | omega)); first | done | fail) | omega | (show _ ≤ ((64 : Nat) : Int); omega))); first | done | fail)))) rfl ?_ | refine sl_yes rfl rfl ?_ | refine sl_no rfl rfl rfl ?_ | refine sl_off rfl rfl rfl ?_) | (first | refine sc_seq ?_ | refine sc_region ?_ | refine sl_nil ?_ | refine se_seq ?_ | refine sc_cond rfl (by constructor) ?_ | refine sc_skip ?_ | refine sc_block ?_ | refine se_blk (by first | exact .n | exact .h | exact .m rfl | exact .r | exact .p) ?_ | refine sc_exit ?_ | refine se_pass (by constructor) ?_ | refine sc_ret ?_) | ((first | refine sl_store rfl (by ((repeat (first | exact Pick.here | apply Pick.there)); first | done | fail)) rfl rfl (by kernel_rfl) (by (first | (fail) | ((repeat (first | exact SetAt.here | apply SetAt.there)); first | done | fail))) ?_ | refine sl_store_whole rfl (by ((repeat (first | exact Pick.here | apply Pick.there)); first | done | fail)) rfl (by (first | rfl | (simp only [Seen.len, bytes_length, Id.len]; rfl; first | done | fail))) (by (first | rfl | (simp only [Seen.len, bytes_length, Id.len]; rfl; first | done | fail))) (by (first | assumption | exact Seen.one _ | (simp only [List.mem_cons, List.not_mem_nil, or_false, forall_eq_or_imp, forall_eq]; decide) | exact one_bytes _)) ?_))))
    refine sc_for (fun j : Nat => [(0, .slice A xs.length c), (1, .slice B ys.length d), (12, .int .i64 xs.length), (13, .int .i64 j)]) (fun _ => K) (fun j => j ≤ xs.length ∧ xs.take j = ys.take j) (fun j => xs.length - j) 0 (by ((repeat (first | exact has_nil | refine has_cons rfl ?_)); first | done | fail)) (by ((repeat (first | exact Sub.refl | exact Sub.nil | (apply Sub.cons; (repeat (first | exact Pick.here | apply Pick.there)); show Sub _ _) | apply Sub.skip)); first | done | fail)) ⟨Nat.zero_le _, rfl⟩ ?_
    rintro j ⟨hj, he⟩
    by_cases hlt : j < xs.length
    · obtain ⟨a, ha⟩ : ∃ a, xs[j]? = some a := ⟨_, List.getElem?_eq_getElem hlt⟩
      obtain ⟨b, hb⟩ : ∃ b, ys[j]? = some b := ⟨_, List.getElem?_eq_getElem (by omega)⟩
      refine sc_know (vw_form hx (by omega)) ?_
      rintro ⟨ad, hA⟩
      refine sc_know (vw_form hy (by omega)) ?_
      rintro ⟨bd, hB⟩
      subst hA hB
      (repeat (first | (first | refine sl_pu (PuI.sep ((by (constructor; (repeat (first | rfl | exact .t | exact .f | exact .t (by omega) | exact .f (by omega) | exact .u | exact .i (by (first | exact .t (by omega) | exact .f (by omega) | exact .u | exact .i (by omega) | exact .v (by omega) | exact .b (by omega) | exact .w | rfl | omega)) | exact .v (by omega) | exact .b (by omega) | exact .q (by omega) | exact .w | exact .b (by ((repeat (first | exact At.here | assumption | refine At.there ?_)); first | done | fail)) rfl (by (first | rfl | first | exact Seen.nt _ | exact Seen.nc _)) | exact .w (by ((repeat (first | exact At.here | assumption | refine At.there ?_)); first | done | fail)) rfl rfl (by (first | rfl | (simp only [Seen.len, bytes_length, Id.len]; rfl; first | done | fail))) | exact .s (by ((repeat (first | exact At.here | assumption | refine At.there ?_)); first | done | fail)) (by (first | first | exact Seen.mid _ | exact Mid.all | exact Mid.head)) rfl rfl (by (first | rfl | (simp only [Seen.len, bytes_length, Id.len]; rfl; first | done | fail))) | exact .z rfl rfl ⟨by kernel_rfl⟩ | exact .b rfl rfl ⟨by kernel_rfl⟩ | exact .a rfl rfl ⟨by kernel_rfl⟩ | exact .o rfl | exact .s | exact .n | exact .p rfl | exact .q rfl | exact .c rfl | exact .d rfl | exact .n rfl rfl (by omega) | exact .a rfl rfl (by omega) | exact .p rfl rfl (by omega) (by omega) | exact .y rfl rfl (by omega) (by omega) | exact .o (by ((repeat (first | exact At.here | assumption | refine At.there ?_)); first | done | fail)) (by omega) rfl (by (first | rfl | first | exact Seen.nt _ | exact Seen.nc _)) | exact .m (by ((repeat (first | exact At.here | assumption | refine At.there ?_)); first | done | fail)) (by omega) (by (first | first | exact Seen.mid _ | exact Mid.all | exact Mid.head)) rfl rfl (by (first | rfl | (simp only [Seen.len, bytes_length, Id.len]; rfl; first | done | fail))) | exact .mlen (by ((repeat (first | exact At.here | assumption | refine At.there ?_)); first | done | fail)) rfl | exact .r rfl rfl | exact .h rfl rfl rfl (by omega) | exact .l rfl rfl rfl (by omega) (by omega) | exact .g rfl rfl rfl rfl (by omega) (by omega) | exact .o (by decide) | exact .f (by decide) | exact .n (by omega) (by first | decide | (show _ ≤ ((64 : Nat) : Int); omega)) | (constructor; (repeat (first | exact .t (by omega) | exact .f (by omega) | exact .u | exact .i (by omega) | exact .v (by omega) | exact .b (by omega) | exact .w | rfl | omega)); first | done | fail) | omega | (show _ ≤ ((64 : Nat) : Int); omega))); first | done | fail)))) rfl ?_ | refine sl_yes rfl rfl ?_ | refine sl_no rfl rfl rfl ?_ | refine sl_off rfl rfl rfl ?_) | (first | refine sc_seq ?_ | refine sc_region ?_ | refine sl_nil ?_ | refine se_seq ?_ | refine sc_cond rfl (by constructor) ?_ | refine sc_skip ?_ | refine sc_block ?_ | refine se_blk (by first | exact .n | exact .h | exact .m rfl | exact .r | exact .p) ?_ | refine sc_exit ?_ | refine se_pass (by constructor) ?_ | refine sc_ret ?_) | ((first | refine sl_store rfl (by ((repeat (first | exact Pick.here | apply Pick.there)); first | done | fail)) rfl rfl (by kernel_rfl) (by (first | (fail) | ((repeat (first | exact SetAt.here | apply SetAt.there)); first | done | fail))) ?_ | refine sl_store_whole rfl (by ((repeat (first | exact Pick.here | apply Pick.there)); first | done | fail)) rfl (by (first | rfl | (simp only [Seen.len, bytes_length, Id.len]; rfl; first | done | fail))) (by (first | rfl | (simp only [Seen.len, bytes_length, Id.len]; rfl; first | done | fail))) (by (first | assumption | exact Seen.one _ | (simp only [List.mem_cons, List.not_mem_nil, or_false, forall_eq_or_imp, forall_eq]; decide) | exact one_bytes _)) ?_))))
      refine sq_region (by kernel_rfl) (by kernel_rfl) ?_
      repeat (first | refine wq_pu (PuI.sep ((by (constructor; (repeat (first | rfl | exact .t | exact .f | exact .t (by omega) | exact .f (by omega) | exact .u | exact .i (by (first | exact .t (by omega) | exact .f (by omega) | exact .u | exact .i (by omega) | exact .v (by omega) | exact .b (by omega) | exact .w | rfl | omega)) | exact .v (by omega) | exact .b (by omega) | exact .q (by omega) | exact .w | exact .b (by ((repeat (first | exact At.here | assumption | refine At.there ?_)); first | done | fail)) rfl (by (first | rfl | first | exact Seen.nt _ | exact Seen.nc _)) | exact .w (by ((repeat (first | exact At.here | assumption | refine At.there ?_)); first | done | fail)) rfl rfl (by (first | rfl | (simp only [Seen.len, bytes_length, Id.len]; rfl; first | done | fail))) | exact .s (by ((repeat (first | exact At.here | assumption | refine At.there ?_)); first | done | fail)) (by (first | first | exact Seen.mid _ | exact Mid.all | exact Mid.head)) rfl rfl (by (first | rfl | (simp only [Seen.len, bytes_length, Id.len]; rfl; first | done | fail))) | exact .z rfl rfl ⟨by kernel_rfl⟩ | exact .b rfl rfl ⟨by kernel_rfl⟩ | exact .a rfl rfl ⟨by kernel_rfl⟩ | exact .o rfl | exact .s | exact .n | exact .p rfl | exact .q rfl | exact .c rfl | exact .d rfl | exact .n rfl rfl (by omega) | exact .a rfl rfl (by omega) | exact .p rfl rfl (by omega) (by omega) | exact .y rfl rfl (by omega) (by omega) | exact .o (by ((repeat (first | exact At.here | assumption | refine At.there ?_)); first | done | fail)) (by omega) rfl (by (first | rfl | first | exact Seen.nt _ | exact Seen.nc _)) | exact .m (by ((repeat (first | exact At.here | assumption | refine At.there ?_)); first | done | fail)) (by omega) (by (first | first | exact Seen.mid _ | exact Mid.all | exact Mid.head)) rfl rfl (by (first | rfl | (simp only [Seen.len, bytes_length, Id.len]; rfl; first | done | fail))) | exact .mlen (by ((repeat (first | exact At.here | assumption | refine At.there ?_)); first | done | fail)) rfl | exact .r rfl rfl | exact .h rfl rfl rfl (by omega) | exact .l rfl rfl rfl (by omega) (by omega) | exact .g rfl rfl rfl rfl (by omega) (by omega) | exact .o (by decide) | exact .f (by decide) | exact .n (by omega) (by first | decide | (show _ ≤ ((64 : Nat) : Int); omega)) | (constructor; (repeat (first | exact .t (by omega) | exact .f (by omega) | exact .u | exact .i (by omega) | exact .v (by omega) | exact .b (by omega) | exact .w | rfl | omega)); first | done | fail) | omega | (show _ ≤ ((64 : Nat) : Int); omega))); first | done | fail)))) rfl ?_ | refine wq_yes rfl rfl ?_ | refine wq_no rfl rfl rfl ?_ | refine wq_off rfl rfl rfl ?_)
      refine wq_pu (pu_ldrs hx (by omega) rfl (rows_mid Seen.len ha) rfl rfl (by (first | rfl | (simp only [Seen.len, bytes_length, Id.len]; rfl; first | done | fail)))) rfl ?_
      repeat (first | refine wq_pu (PuI.sep ((by (constructor; (repeat (first | rfl | exact .t | exact .f | exact .t (by omega) | exact .f (by omega) | exact .u | exact .i (by (first | exact .t (by omega) | exact .f (by omega) | exact .u | exact .i (by omega) | exact .v (by omega) | exact .b (by omega) | exact .w | rfl | omega)) | exact .v (by omega) | exact .b (by omega) | exact .q (by omega) | exact .w | exact .b (by ((repeat (first | exact At.here | assumption | refine At.there ?_)); first | done | fail)) rfl (by (first | rfl | first | exact Seen.nt _ | exact Seen.nc _)) | exact .w (by ((repeat (first | exact At.here | assumption | refine At.there ?_)); first | done | fail)) rfl rfl (by (first | rfl | (simp only [Seen.len, bytes_length, Id.len]; rfl; first | done | fail))) | exact .s (by ((repeat (first | exact At.here | assumption | refine At.there ?_)); first | done | fail)) (by (first | first | exact Seen.mid _ | exact Mid.all | exact Mid.head)) rfl rfl (by (first | rfl | (simp only [Seen.len, bytes_length, Id.len]; rfl; first | done | fail))) | exact .z rfl rfl ⟨by kernel_rfl⟩ | exact .b rfl rfl ⟨by kernel_rfl⟩ | exact .a rfl rfl ⟨by kernel_rfl⟩ | exact .o rfl | exact .s | exact .n | exact .p rfl | exact .q rfl | exact .c rfl | exact .d rfl | exact .n rfl rfl (by omega) | exact .a rfl rfl (by omega) | exact .p rfl rfl (by omega) (by omega) | exact .y rfl rfl (by omega) (by omega) | exact .o (by ((repeat (first | exact At.here | assumption | refine At.there ?_)); first | done | fail)) (by omega) rfl (by (first | rfl | first | exact Seen.nt _ | exact Seen.nc _)) | exact .m (by ((repeat (first | exact At.here | assumption | refine At.there ?_)); first | done | fail)) (by omega) (by (first | first | exact Seen.mid _ | exact Mid.all | exact Mid.head)) rfl rfl (by (first | rfl | (simp only [Seen.len, bytes_length, Id.len]; rfl; first | done | fail))) | exact .mlen (by ((repeat (first | exact At.here | assumption | refine At.there ?_)); first | done | fail)) rfl | exact .r rfl rfl | exact .h rfl rfl rfl (by omega) | exact .l rfl rfl rfl (by omega) (by omega) | exact .g rfl rfl rfl rfl (by omega) (by omega) | exact .o (by decide) | exact .f (by decide) | exact .n (by omega) (by first | decide | (show _ ≤ ((64 : Nat) : Int); omega)) | (constructor; (repeat (first | exact .t (by omega) | exact .f (by omega) | exact .u | exact .i (by omega) | exact .v (by omega) | exact .b (by omega) | exact .w | rfl | omega)); first | done | fail) | omega | (show _ ≤ ((64 : Nat) : Int); omega))); first | done | fail)))) rfl ?_ | refine wq_yes rfl rfl ?_ | refine wq_no rfl rfl rfl ?_ | refine wq_off rfl rfl rfl ?_)
      refine wq_pu (pu_ldrs hy (by omega) rfl (rows_mid Seen.len hb) rfl rfl (by (first | rfl | (simp only [Seen.len, bytes_length, Id.len]; rfl; first | done | fail)))) rfl ?_
      refine wq_pu (pu_seen_neq (a := a) (b := b) rfl rfl) rfl ?_
      by_cases hab : a = b
      · rw [show (!decide (a = b)) = false from by simp [hab]]
        refine sq_end ?_
        (repeat (first | (first | refine sl_pu (PuI.sep ((by (constructor; (repeat (first | rfl | exact .t | exact .f | exact .t (by omega) | exact .f (by omega) | exact .u | exact .i (by (first | exact .t (by omega) | exact .f (by omega) | exact .u | exact .i (by omega) | exact .v (by omega) | exact .b (by omega) | exact .w | rfl | omega)) | exact .v (by omega) | exact .b (by omega) | exact .q (by omega) | exact .w | exact .b (by ((repeat (first | exact At.here | assumption | refine At.there ?_)); first | done | fail)) rfl (by (first | rfl | first | exact Seen.nt _ | exact Seen.nc _)) | exact .w (by ((repeat (first | exact At.here | assumption | refine At.there ?_)); first | done | fail)) rfl rfl (by (first | rfl | (simp only [Seen.len, bytes_length, Id.len]; rfl; first | done | fail))) | exact .s (by ((repeat (first | exact At.here | assumption | refine At.there ?_)); first | done | fail)) (by (first | first | exact Seen.mid _ | exact Mid.all | exact Mid.head)) rfl rfl (by (first | rfl | (simp only [Seen.len, bytes_length, Id.len]; rfl; first | done | fail))) | exact .z rfl rfl ⟨by kernel_rfl⟩ | exact .b rfl rfl ⟨by kernel_rfl⟩ | exact .a rfl rfl ⟨by kernel_rfl⟩ | exact .o rfl | exact .s | exact .n | exact .p rfl | exact .q rfl | exact .c rfl | exact .d rfl | exact .n rfl rfl (by omega) | exact .a rfl rfl (by omega) | exact .p rfl rfl (by omega) (by omega) | exact .y rfl rfl (by omega) (by omega) | exact .o (by ((repeat (first | exact At.here | assumption | refine At.there ?_)); first | done | fail)) (by omega) rfl (by (first | rfl | first | exact Seen.nt _ | exact Seen.nc _)) | exact .m (by ((repeat (first | exact At.here | assumption | refine At.there ?_)); first | done | fail)) (by omega) (by (first | first | exact Seen.mid _ | exact Mid.all | exact Mid.head)) rfl rfl (by (first | rfl | (simp only [Seen.len, bytes_length, Id.len]; rfl; first | done | fail))) | exact .mlen (by ((repeat (first | exact At.here | assumption | refine At.there ?_)); first | done | fail)) rfl | exact .r rfl rfl | exact .h rfl rfl rfl (by omega) | exact .l rfl rfl rfl (by omega) (by omega) | exact .g rfl rfl rfl rfl (by omega) (by omega) | exact .o (by decide) | exact .f (by decide) | exact .n (by omega) (by first | decide | (show _ ≤ ((64 : Nat) : Int); omega)) | (constructor; (repeat (first | exact .t (by omega) | exact .f (by omega) | exact .u | exact .i (by omega) | exact .v (by omega) | exact .b (by omega) | exact .w | rfl | omega)); first | done | fail) | omega | (show _ ≤ ((64 : Nat) : Int); omega))); first | done | fail)))) rfl ?_ | refine sl_yes rfl rfl ?_ | refine sl_no rfl rfl rfl ?_ | refine sl_off rfl rfl rfl ?_) | (first | refine sc_seq ?_ | refine sc_region ?_ | refine sl_nil ?_ | refine se_seq ?_ | refine sc_cond rfl (by constructor) ?_ | refine sc_skip ?_ | refine sc_block ?_ | refine se_blk (by first | exact .n | exact .h | exact .m rfl | exact .r | exact .p) ?_ | refine sc_exit ?_ | refine se_pass (by constructor) ?_ | refine sc_ret ?_) | ((first | refine sl_store rfl (by ((repeat (first | exact Pick.here | apply Pick.there)); first | done | fail)) rfl rfl (by kernel_rfl) (by (first | (fail) | ((repeat (first | exact SetAt.here | apply SetAt.there)); first | done | fail))) ?_ | refine sl_store_whole rfl (by ((repeat (first | exact Pick.here | apply Pick.there)); first | done | fail)) rfl (by (first | rfl | (simp only [Seen.len, bytes_length, Id.len]; rfl; first | done | fail))) (by (first | rfl | (simp only [Seen.len, bytes_length, Id.len]; rfl; first | done | fail))) (by (first | assumption | exact Seen.one _ | (simp only [List.mem_cons, List.not_mem_nil, or_false, forall_eq_or_imp, forall_eq]; decide) | exact one_bytes _)) ?_))))
        refine se_round (j + 1) (by ((repeat (first | exact has_nil | refine has_cons rfl ?_)); first | done | fail)) (by ((repeat (first | exact Sub.refl | exact Sub.nil | (apply Sub.cons; (repeat (first | exact Pick.here | apply Pick.there)); show Sub _ _) | apply Sub.skip)); first | done | fail)) ⟨hlt, ?_⟩ (by omega)
        obtain ⟨h1, h2⟩ := List.getElem?_eq_some_iff.1 ha
        obtain ⟨h3, h4⟩ := List.getElem?_eq_some_iff.1 hb
        rw [List.take_succ_eq_append_getElem h1, List.take_succ_eq_append_getElem h3, h2, h4, he, hab]
      · rw [show (!decide (a = b)) = true from by simp [hab]]
        refine sq_end ?_
        (repeat (first | (first | refine sl_pu (PuI.sep ((by (constructor; (repeat (first | rfl | exact .t | exact .f | exact .t (by omega) | exact .f (by omega) | exact .u | exact .i (by (first | exact .t (by omega) | exact .f (by omega) | exact .u | exact .i (by omega) | exact .v (by omega) | exact .b (by omega) | exact .w | rfl | omega)) | exact .v (by omega) | exact .b (by omega) | exact .q (by omega) | exact .w | exact .b (by ((repeat (first | exact At.here | assumption | refine At.there ?_)); first | done | fail)) rfl (by (first | rfl | first | exact Seen.nt _ | exact Seen.nc _)) | exact .w (by ((repeat (first | exact At.here | assumption | refine At.there ?_)); first | done | fail)) rfl rfl (by (first | rfl | (simp only [Seen.len, bytes_length, Id.len]; rfl; first | done | fail))) | exact .s (by ((repeat (first | exact At.here | assumption | refine At.there ?_)); first | done | fail)) (by (first | first | exact Seen.mid _ | exact Mid.all | exact Mid.head)) rfl rfl (by (first | rfl | (simp only [Seen.len, bytes_length, Id.len]; rfl; first | done | fail))) | exact .z rfl rfl ⟨by kernel_rfl⟩ | exact .b rfl rfl ⟨by kernel_rfl⟩ | exact .a rfl rfl ⟨by kernel_rfl⟩ | exact .o rfl | exact .s | exact .n | exact .p rfl | exact .q rfl | exact .c rfl | exact .d rfl | exact .n rfl rfl (by omega) | exact .a rfl rfl (by omega) | exact .p rfl rfl (by omega) (by omega) | exact .y rfl rfl (by omega) (by omega) | exact .o (by ((repeat (first | exact At.here | assumption | refine At.there ?_)); first | done | fail)) (by omega) rfl (by (first | rfl | first | exact Seen.nt _ | exact Seen.nc _)) | exact .m (by ((repeat (first | exact At.here | assumption | refine At.there ?_)); first | done | fail)) (by omega) (by (first | first | exact Seen.mid _ | exact Mid.all | exact Mid.head)) rfl rfl (by (first | rfl | (simp only [Seen.len, bytes_length, Id.len]; rfl; first | done | fail))) | exact .mlen (by ((repeat (first | exact At.here | assumption | refine At.there ?_)); first | done | fail)) rfl | exact .r rfl rfl | exact .h rfl rfl rfl (by omega) | exact .l rfl rfl rfl (by omega) (by omega) | exact .g rfl rfl rfl rfl (by omega) (by omega) | exact .o (by decide) | exact .f (by decide) | exact .n (by omega) (by first | decide | (show _ ≤ ((64 : Nat) : Int); omega)) | (constructor; (repeat (first | exact .t (by omega) | exact .f (by omega) | exact .u | exact .i (by omega) | exact .v (by omega) | exact .b (by omega) | exact .w | rfl | omega)); first | done | fail) | omega | (show _ ≤ ((64 : Nat) : Int); omega))); first | done | fail)))) rfl ?_ | refine sl_yes rfl rfl ?_ | refine sl_no rfl rfl rfl ?_ | refine sl_off rfl rfl rfl ?_) | (first | refine sc_seq ?_ | refine sc_region ?_ | refine sl_nil ?_ | refine se_seq ?_ | refine sc_cond rfl (by constructor) ?_ | refine sc_skip ?_ | refine sc_block ?_ | refine se_blk (by first | exact .n | exact .h | exact .m rfl | exact .r | exact .p) ?_ | refine sc_exit ?_ | refine se_pass (by constructor) ?_ | refine sc_ret ?_) | ((first | refine sl_store rfl (by ((repeat (first | exact Pick.here | apply Pick.there)); first | done | fail)) rfl rfl (by kernel_rfl) (by (first | (fail) | ((repeat (first | exact SetAt.here | apply SetAt.there)); first | done | fail))) ?_ | refine sl_store_whole rfl (by ((repeat (first | exact Pick.here | apply Pick.there)); first | done | fail)) rfl (by (first | rfl | (simp only [Seen.len, bytes_length, Id.len]; rfl; first | done | fail))) (by (first | rfl | (simp only [Seen.len, bytes_length, Id.len]; rfl; first | done | fail))) (by (first | assumption | exact Seen.one _ | (simp only [List.mem_cons, List.not_mem_nil, or_false, forall_eq_or_imp, forall_eq]; decide) | exact one_bytes _)) ?_))))
        refine se_ret1 () trivial rfl ?_ (by ((repeat (first | exact Sub.refl | exact Sub.nil | (apply Sub.cons; (repeat (first | exact Pick.here | apply Pick.there)); show Sub _ _) | apply Sub.skip)); first | done | fail))
        rw [show decide (xs = ys) = false from decide_eq_false (fun e => hab (by subst e; rw [ha] at hb; injection hb))]
        rfl
    · obtain rfl : j = xs.length := by omega
      rw [List.take_length, hl, List.take_length] at he
      (repeat (first | (first | refine sl_pu (PuI.sep ((by (constructor; (repeat (first | rfl | exact .t | exact .f | exact .t (by omega) | exact .f (by omega) | exact .u | exact .i (by (first | exact .t (by omega) | exact .f (by omega) | exact .u | exact .i (by omega) | exact .v (by omega) | exact .b (by omega) | exact .w | rfl | omega)) | exact .v (by omega) | exact .b (by omega) | exact .q (by omega) | exact .w | exact .b (by ((repeat (first | exact At.here | assumption | refine At.there ?_)); first | done | fail)) rfl (by (first | rfl | first | exact Seen.nt _ | exact Seen.nc _)) | exact .w (by ((repeat (first | exact At.here | assumption | refine At.there ?_)); first | done | fail)) rfl rfl (by (first | rfl | (simp only [Seen.len, bytes_length, Id.len]; rfl; first | done | fail))) | exact .s (by ((repeat (first | exact At.here | assumption | refine At.there ?_)); first | done | fail)) (by (first | first | exact Seen.mid _ | exact Mid.all | exact Mid.head)) rfl rfl (by (first | rfl | (simp only [Seen.len, bytes_length, Id.len]; rfl; first | done | fail))) | exact .z rfl rfl ⟨by kernel_rfl⟩ | exact .b rfl rfl ⟨by kernel_rfl⟩ | exact .a rfl rfl ⟨by kernel_rfl⟩ | exact .o rfl | exact .s | exact .n | exact .p rfl | exact .q rfl | exact .c rfl | exact .d rfl | exact .n rfl rfl (by omega) | exact .a rfl rfl (by omega) | exact .p rfl rfl (by omega) (by omega) | exact .y rfl rfl (by omega) (by omega) | exact .o (by ((repeat (first | exact At.here | assumption | refine At.there ?_)); first | done | fail)) (by omega) rfl (by (first | rfl | first | exact Seen.nt _ | exact Seen.nc _)) | exact .m (by ((repeat (first | exact At.here | assumption | refine At.there ?_)); first | done | fail)) (by omega) (by (first | first | exact Seen.mid _ | exact Mid.all | exact Mid.head)) rfl rfl (by (first | rfl | (simp only [Seen.len, bytes_length, Id.len]; rfl; first | done | fail))) | exact .mlen (by ((repeat (first | exact At.here | assumption | refine At.there ?_)); first | done | fail)) rfl | exact .r rfl rfl | exact .h rfl rfl rfl (by omega) | exact .l rfl rfl rfl (by omega) (by omega) | exact .g rfl rfl rfl rfl (by omega) (by omega) | exact .o (by decide) | exact .f (by decide) | exact .n (by omega) (by first | decide | (show _ ≤ ((64 : Nat) : Int); omega)) | (constructor; (repeat (first | exact .t (by omega) | exact .f (by omega) | exact .u | exact .i (by omega) | exact .v (by omega) | exact .b (by omega) | exact .w | rfl | omega)); first | done | fail) | omega | (show _ ≤ ((64 : Nat) : Int); omega))); first | done | fail)))) rfl ?_ | refine sl_yes rfl rfl ?_ | refine sl_no rfl rfl rfl ?_ | refine sl_off rfl rfl rfl ?_) | (first | refine sc_seq ?_ | refine sc_region ?_ | refine sl_nil ?_ | refine se_seq ?_ | refine sc_cond rfl (by constructor) ?_ | refine sc_skip ?_ | refine sc_block ?_ | refine se_blk (by first | exact .n | exact .h | exact .m rfl | exact .r | exact .p) ?_ | refine sc_exit ?_ | refine se_pass (by constructor) ?_ | refine sc_ret ?_) | ((first | refine sl_store rfl (by ((repeat (first | exact Pick.here | apply Pick.there)); first | done | fail)) rfl rfl (by kernel_rfl) (by (first | (fail) | ((repeat (first | exact SetAt.here | apply SetAt.there)); first | done | fail))) ?_ | refine sl_store_whole rfl (by ((repeat (first | exact Pick.here | apply Pick.there)); first | done | fail)) rfl (by (first | rfl | (simp only [Seen.len, bytes_length, Id.len]; rfl; first | done | fail))) (by (first | rfl | (simp only [Seen.len, bytes_length, Id.len]; rfl; first | done | fail))) (by (first | assumption | exact Seen.one _ | (simp only [List.mem_cons, List.not_mem_nil, or_false, forall_eq_or_imp, forall_eq]; decide) | exact one_bytes _)) ?_))))
      refine se_ret1 () trivial rfl ?_ (by ((repeat (first | exact Sub.refl | exact Sub.nil | (apply Sub.cons; (repeat (first | exact Pick.here | apply Pick.there)); show Sub _ _) | apply Sub.skip)); first | done | fail))
      rw [show decide (xs = ys) = true from decide_eq_true he]
      rfl
  · (repeat (first | (first | refine sl_pu (PuI.sep ((by (constructor; (repeat (first | rfl | exact .t | exact .f | exact .t (by omega) | exact .f (by omega) | exact .u | exact .i (by (first | exact .t (by omega) | exact .f (by omega) | exact .u | exact .i (by omega) | exact .v (by omega) | exact .b (by omega) | exact .w | rfl | omega)) | exact .v (by omega) | exact .b (by omega) | exact .q (by omega) | exact .w | exact .b (by ((repeat (first | exact At.here | assumption | refine At.there ?_)); first | done | fail)) rfl (by (first | rfl | first | exact Seen.nt _ | exact Seen.nc _)) | exact .w (by ((repeat (first | exact At.here | assumption | refine At.there ?_)); first | done | fail)) rfl rfl (by (first | rfl | (simp only [Seen.len, bytes_length, Id.len]; rfl; first | done | fail))) | exact .s (by ((repeat (first | exact At.here | assumption | refine At.there ?_)); first | done | fail)) (by (first | first | exact Seen.mid _ | exact Mid.all | exact Mid.head)) rfl rfl (by (first | rfl | (simp only [Seen.len, bytes_length, Id.len]; rfl; first | done | fail))) | exact .z rfl rfl ⟨by kernel_rfl⟩ | exact .b rfl rfl ⟨by kernel_rfl⟩ | exact .a rfl rfl ⟨by kernel_rfl⟩ | exact .o rfl | exact .s | exact .n | exact .p rfl | exact .q rfl | exact .c rfl | exact .d rfl | exact .n rfl rfl (by omega) | exact .a rfl rfl (by omega) | exact .p rfl rfl (by omega) (by omega) | exact .y rfl rfl (by omega) (by omega) | exact .o (by ((repeat (first | exact At.here | assumption | refine At.there ?_)); first | done | fail)) (by omega) rfl (by (first | rfl | first | exact Seen.nt _ | exact Seen.nc _)) | exact .m (by ((repeat (first | exact At.here | assumption | refine At.there ?_)); first | done | fail)) (by omega) (by (first | first | exact Seen.mid _ | exact Mid.all | exact Mid.head)) rfl rfl (by (first | rfl | (simp only [Seen.len, bytes_length, Id.len]; rfl; first | done | fail))) | exact .mlen (by ((repeat (first | exact At.here | assumption | refine At.there ?_)); first | done | fail)) rfl | exact .r rfl rfl | exact .h rfl rfl rfl (by omega) | exact .l rfl rfl rfl (by omega) (by omega) | exact .g rfl rfl rfl rfl (by omega) (by omega) | exact .o (by decide) | exact .f (by decide) | exact .n (by omega) (by first | decide | (show _ ≤ ((64 : Nat) : Int); omega)) | (constructor; (repeat (first | exact .t (by omega) | exact .f (by omega) | exact .u | exact .i (by omega) | exact .v (by omega) | exact .b (by omega) | exact .w | rfl | omega)); first | done | fail) | omega | (show _ ≤ ((64 : Nat) : Int); omega))); first | done | fail)))) rfl ?_ | refine sl_yes rfl rfl ?_ | refine sl_no rfl rfl rfl ?_ | refine sl_off rfl rfl rfl ?_) | (first | refine sc_seq ?_ | refine sc_region ?_ | refine sl_nil ?_ | refine se_seq ?_ | refine sc_cond rfl (by constructor) ?_ | refine sc_skip ?_ | refine sc_block ?_ | refine se_blk (by first | exact .n | exact .h | exact .m rfl | exact .r | exact .p) ?_ | refine sc_exit ?_ | refine se_pass (by constructor) ?_ | refine sc_ret ?_) | ((first | refine sl_store rfl (by ((repeat (first | exact Pick.here | apply Pick.there)); first | done | fail)) rfl rfl (by kernel_rfl) (by (first | (fail) | ((repeat (first | exact SetAt.here | apply SetAt.there)); first | done | fail))) ?_ | refine sl_store_whole rfl (by ((repeat (first | exact Pick.here | apply Pick.there)); first | done | fail)) rfl (by (first | rfl | (simp only [Seen.len, bytes_length, Id.len]; rfl; first | done | fail))) (by (first | rfl | (simp only [Seen.len, bytes_length, Id.len]; rfl; first | done | fail))) (by (first | assumption | exact Seen.one _ | (simp only [List.mem_cons, List.not_mem_nil, or_false, forall_eq_or_imp, forall_eq]; decide) | exact one_bytes _)) ?_))))
    refine se_ret1 () trivial rfl ?_ (by ((repeat (first | exact Sub.refl | exact Sub.nil | (apply Sub.cons; (repeat (first | exact Pick.here | apply Pick.there)); show Sub _ _) | apply Sub.skip)); first | done | fail))
    rw [show decide (xs = ys) = false from decide_eq_false (fun e => hl (by rw [e]))]
    rfl
end Go.Proofs.Ytlfmpjojdhfflaa
