/- Maps as facts: what is looked up, laid in, counted, trodden in whatever order. No program is in sight. -/
import Derived.Test.YtfnjeojaahnlfaaDoorSp3
import Derived.Maps.RangeRun
namespace Go.Proofs.YtfnjeojaahnlfaaDoor
open Go.RowKit Go.MapKept
def MapP (g : Nat) (d : TypeDesc) (es : List MapEntry) (ck : Nat) (w : World) : Prop := w.heap[g]? = some (.map es.toArray ck) ∧ Stamped es.toArray ck ∧ ∀ x ∈ es, IsKey d x.key
theorem heap_lt {w : World} {g : Nat} {o : Obj} (h : w.heap[g]? = some o) : g < w.heap.size := (Array.getElem?_eq_some_iff.1 h).1
/-- A map's entries, in the order in which they came in; the number of entries that came in so far. -/
def mp (g : Nat) (d : TypeDesc) (es : List MapEntry) (ck : Nat) : Fa := ⟨MapP g d es ck, fun k => k = g, fun h e => by rw [e]; exact heap_lt h.1, fun h hF hn => ⟨(hF.block g (heap_lt h.1) (hn g rfl)).trans h.1, h.2⟩⟩
def ItrP (r g ck : Nat) (vs : List MapEntry) (w : World) : Prop := w.heap[r]? = some (.mapIter (some g) ck (vs.map (·.born)).toArray ck)
/-- A loop over a map: those that came by. -/
def itr (r g ck : Nat) (vs : List MapEntry) : Fa := ⟨ItrP r g ck vs, fun k => k = r, fun h e => by rw [e]; exact heap_lt h, fun h hF hn => (hF.block r (heap_lt h) (hn r rfl)).trans h⟩
theorem mp_P {g ck : Nat} {d : TypeDesc} {es : List MapEntry} {w : World} : (mp g d es ck).P w = MapP g d es ck w := rfl
theorem mp_F {g ck k : Nat} {d : TypeDesc} {es : List MapEntry} : (mp g d es ck).F k = (k = g) := rfl
theorem itr_P {r g ck : Nat} {vs : List MapEntry} {w : World} : (itr r g ck vs).P w = ItrP r g ck vs w := rfl
theorem itr_F {r g ck k : Nat} {vs : List MapEntry} : (itr r g ck vs).F k = (k = r) := rfl
attribute [irreducible] mp itr
def MGet (es : List MapEntry) (k v : Value) : Prop := ∃ e ∈ es, e.key = k ∧ e.val = v
def MNo (es : List MapEntry) (k : Value) : Prop := ∀ e ∈ es, e.key ≠ k
section
variable {P : Program} {w : World} {g ck : Nat} {d : TypeDesc} {es : List MapEntry} {k v z : Value} {t kt e : TypeId}
theorem pw_one {α β : Type} {f : α → β} : ∀ {l : List α}, l.Pairwise (fun x y => f x ≠ f y) → ∀ {a b : α}, a ∈ l → b ∈ l → f a = f b → a = b
  | c :: r, hp, a, b, ha, hb, he => by
    rw [List.pairwise_cons] at hp
    rcases List.mem_cons.1 ha with h1 | h1 <;> rcases List.mem_cons.1 hb with h2 | h2
    · rw [h1, h2]
    · subst h1
      exact absurd he (hp.1 b h2)
    · subst h2
      exact absurd he.symm (hp.1 a h1)
    · exact pw_one hp.2 h1 h2 he
theorem key_one (h : Stamped es.toArray ck) {a b : MapEntry} (ha : a ∈ es) (hb : b ∈ es) (hk : a.key = b.key) : a = b := by
  have h3 := ((stamped_iff _ _).1 h).2.2
  rw [List.toList_toArray] at h3
  exact pw_one (f := MapEntry.key) h3 ha hb hk
theorem born_one (h : Stamped es.toArray ck) {a b : MapEntry} (ha : a ∈ es) (hb : b ∈ es) (hk : a.born = b.born) : a = b := by
  have h2 : es.Pairwise (fun x y => x.born ≠ y.born) := by
    have := h.2.1
    rw [List.toList_toArray, List.Nodup, List.pairwise_map] at this
    exact this
  exact pw_one (f := MapEntry.born) h2 ha hb hk
theorem find_get (h : MapP g d es ck w) (hk : IsKey d k) (hg : MGet es k v) : ∃ j e, Instr.findNow d k es 0 = some (some (j, v)) ∧ es[j]? = some e ∧ e.key = k ∧ e.val = v := by
  obtain ⟨e0, he0, hk0, hv0⟩ := hg
  rcases findNow_spec hk es 0 h.2.2 with ⟨_, h2⟩ | ⟨j, e, h1, h2, h3⟩
  · exact absurd hk0 (h2 _ he0)
  · have : e = e0 := key_one h.2.1 (List.mem_of_getElem? h2) he0 (h3.trans hk0.symm)
    subst this
    subst hv0
    exact ⟨j, e, by simpa using h1, h2, h3, rfl⟩
theorem find_no (h : MapP g d es ck w) (hk : IsKey d k) (hg : MNo es k) : Instr.findNow d k es 0 = some none := by
  rcases findNow_spec hk es 0 h.2.2 with ⟨h1, _⟩ | ⟨j, e, h1, h2, h3⟩
  · exact h1
  · exact absurd h3 (hg e (List.mem_of_getElem? h2))
theorem run_look (h : MapP g d es ck w) (ht : P.underlying t = some (.map kt e)) (hd : P.underlying kt = some d) (hk : IsKey d k) (hg : MGet es k v) (c : Bool) : (Instr.lookup t (.map (some g)) k c).run P w = .ok (if c then .tuple #[v, .bool true] else v) w := by
  obtain ⟨j, e, h1, _, _, _⟩ := find_get h hk hg
  simp [Instr.lookup, run_underlying ht, MapKept.run_getObj_map h.1, run_checkKey hd hk, run_findKey hd h1]
theorem run_look_no (h : MapP g d es ck w) (ht : P.underlying t = some (.map kt e)) (hd : P.underlying kt = some d) (hk : IsKey d k) (hg : MNo es k) (hz : zeroOf P e = some z) (c : Bool) : (Instr.lookup t (.map (some g)) k c).run P w = .ok (if c then .tuple #[z, .bool false] else z) w := by
  obtain ⟨i, hi, hz'⟩ := zeroOf_spec hz
  simp [Instr.lookup, run_underlying ht, MapKept.run_getObj_map h.1, run_checkKey hd hk, run_findKey hd (find_no h hk hg), zeroValue, typeInfo, hi, hz']
end
section
variable {P : Program} {C : World → Prop} {n : Nat} {l : Env} {ty t kt e : TypeId} {x y : Operand} {g ck r : Nat} {d : TypeDesc} {es vs : List MapEntry} {k v z : Value}
theorem pu_look (hb : ∀ W, C W → (mp g d es ck).P W) (hx : ev l x = some (.map (some g))) (hy : ev l y = some k) (ht : P.underlying t = some (.map kt e)) (hd : P.underlying kt = some d) (hk : IsKey d k) (hg : MGet es k v) (c : Bool) : Pu P C n l (.lookup t x y c) ty (if c then .tuple #[v, .bool true] else v) := by
  unfold Pu
  intro a _ _ _ _ W hs hC
  simp only [execOp, hs.ev hx, hs.ev hy]
  simp [run_look (mp_P ▸ hb W hC) ht hd hk hg c]
theorem pu_look_no (hb : ∀ W, C W → (mp g d es ck).P W) (hx : ev l x = some (.map (some g))) (hy : ev l y = some k) (ht : P.underlying t = some (.map kt e)) (hd : P.underlying kt = some d) (hk : IsKey d k) (hg : MNo es k) (hz : zeroOf P e = some z) (c : Bool) : Pu P C n l (.lookup t x y c) ty (if c then .tuple #[z, .bool false] else z) := by
  unfold Pu
  intro a _ _ _ _ W hs hC
  simp only [execOp, hs.ev hx, hs.ev hy]
  simp [run_look_no (mp_P ▸ hb W hC) ht hd hk hg hz c]
theorem pu_lenm (hb : ∀ W, C W → (mp g d es ck).P W) (hx : ev l x = some (.map (some g))) (ht : P.underlying t = some (.map kt e)) : Pu P C n l (.call { callee := .builtin .len, args := #[x], argTypes := #[t] }) ty (.int .i64 es.length) := by
  unfold Pu
  intro a _ _ _ _ W hs hC
  have h := (mp_P ▸ hb W hC : MapP g d es ck W)
  simp only [execOp, resolve, List.map_toArray, List.map_cons, List.map_nil, hs.ev hx]
  simp [invoke, builtin, Builtin.len_, run_underlying ht, MapKept.run_getObj_map h.1, goInt]
theorem pu_entry {me : MapEntry} (hb : ∀ W, C W → (mp g d es ck).P W) (hi : ∀ W, C W → (itr r g ck (vs ++ [me])).P W) (hx : ev l x = some (.pointer (some ⟨r, 0, none⟩))) (he : me ∈ es) : Pu P C n l (.entry x) ty (.tuple #[me.key, me.val]) := by
  unfold Pu
  intro a _ _ _ _ W hs hC
  have h := (mp_P ▸ hb W hC : MapP g d es ck W)
  have h2 := (itr_P ▸ hi W hC : ItrP r g ck (vs ++ [me]) W)
  unfold ItrP at h2
  simp only [execOp, hs.ev hx]
  rw [Sem.run_bind, run_entry_at W r g ck (vs.map (·.born)).toArray es.toArray ck me (by simpa using h2) h.1 (by simpa using he) h.2.1.2.1]
  rfl
end
section
variable {P : Program} {ops : Array Oper} {Q : Exit → Act → World → Prop} {n : Nat} {l : Env} {L L' : List Fa} {rest : List Oper} {d' : Tmp} {ty t kt e : TypeId} {pos : String} {after : Array Edge} {x y u : Operand} {g ck r : Nat} {d : TypeDesc} {es vs A B : List MapEntry} {k v z : Value} {dst : Option Tmp}
theorem sl_makeMap (hd : Nat.blt d' n = true) (h : ∀ g, SL P ops Q rest n ((d', .map (some g)) :: l) (mp g d [] 0 :: L)) : SL P ops Q (⟨some d', .makeMap t none, ty, pos, after, none⟩ :: rest) n l L := sl_of fun w hw => by
  refine wl_run (v := .map (some w.heap.size)) (w' := w.alloc (.map #[] 0)) ?_ hd ((h w.heap.size).to ?_)
  · unfold Ru
    intro a _ _ _ _ hs
    simp [execOp, Instr.makeMap]
  · refine hw.new ((Fr.refl Nil w).alloc _) ?_ (fun j hj => by rw [mp_F] at hj; omega)
    rw [mp_P]
    exact ⟨heap_alloc_new w _, by simpa using stamped_empty 0, by simp⟩
theorem setAt_fr {w : World} {g : Nat} {o : Obj} : Fr (fun j => j = g) w { w with heap := w.heap.setIfInBounds g o } :=
  ⟨rfl, rfl, rfl, by simp, fun j hj hn => by simp [Array.getElem?_setIfInBounds, Ne.symm hn]⟩
/-- A key that was not there. -/
theorem sl_mapNew (hx : ev l x = some (.map (some g))) (hy : ev l y = some k) (hu : ev l u = some v) (hp : Pick (mp g d es ck) L L') (ht : P.underlying t = some (.map kt e)) (hd : P.underlying kt = some d) (hk : IsKey d k) (hg : MNo es k)
    (h : SL P ops Q rest n l (mp g d (es ++ [⟨k, v, ck⟩]) (ck + 1) :: L')) : SL P ops Q (⟨none, .mapUpdate t x y u, ty, pos, after, none⟩ :: rest) n l L := sl_of fun w hw => by
  have h2 := hw.pick hp
  have hm : MapP g d es ck w := mp_P ▸ h2.hd
  refine wl_skip (w' := { w with heap := w.heap.setIfInBounds g (.map (es ++ [(⟨k, v, ck⟩ : MapEntry)]).toArray (ck + 1)) }) ?_ (h.to ?_)
  · unfold Rs
    intro a _ _ _ _ hs
    simp only [execOp, hs.ev hx, hs.ev hy, hs.ev hu]
    simp [Instr.mapUpdate, run_underlying ht, MapKept.run_getObj_map hm.1, run_checkKey hd hk, run_findKey hd (find_no hm hk hg), run_setObj_map _ hm.1]
  · refine h2.step setAt_fr (fun j _ e => by rw [mp_F]; exact e) ?_ (fun j hj => .inl (by rw [mp_F] at hj ⊢; exact hj))
    rw [mp_P]
    refine ⟨by simp [heap_lt hm.1], ?_, ?_⟩
    · have := stamped_push hm.2.1 (key := k) (val := v) (by simpa [MNo] using hg)
      simpa using this
    · intro x hx
      rcases List.mem_append.1 hx with e | e
      · exact hm.2.2 x e
      · rw [List.mem_singleton] at e
        subst e
        exact hk
/-- One that was. -/
theorem sl_mapPut {me : MapEntry} (hx : ev l x = some (.map (some g))) (hy : ev l y = some me.key) (hu : ev l u = some v) (hp : Pick (mp g d (A ++ me :: B) ck) L L') (ht : P.underlying t = some (.map kt e)) (hd : P.underlying kt = some d) (hk : IsKey d me.key)
    (h : SL P ops Q rest n l (mp g d (A ++ ⟨me.key, v, me.born⟩ :: B) ck :: L')) : SL P ops Q (⟨none, .mapUpdate t x y u, ty, pos, after, none⟩ :: rest) n l L := sl_of fun w hw => by
  have h2 := hw.pick hp
  have hm : MapP g d (A ++ me :: B) ck w := mp_P ▸ h2.hd
  have hin : me ∈ A ++ me :: B := by simp
  obtain ⟨j, e', h1, h3, h4, h5⟩ := find_get hm hk ⟨me, hin, rfl, rfl⟩
  have h6 : e' = me := key_one hm.2.1 (List.mem_of_getElem? h3) hin h4
  subst h6
  have hj : j = A.length := by
    have hn := hm.2.1.2.1
    rw [List.toList_toArray] at hn
    obtain ⟨hl, h7⟩ := List.getElem?_eq_some_iff.1 h3
    refine (List.getElem?_inj (l := (A ++ e' :: B).map (·.born)) (by simpa using hl) hn).1 ?_
    rw [List.getElem?_map, List.getElem?_map, h3]
    simp
  subst hj
  have hmod : (A ++ e' :: B).toArray.modify A.length (fun x => { x with key := e'.key, val := v }) = (A ++ ⟨e'.key, v, e'.born⟩ :: B).toArray := by
    apply Array.ext'
    apply List.ext_getElem?
    intro j
    rw [Array.getElem?_toList, Array.getElem?_modify, List.getElem?_toArray, List.toList_toArray]
    rcases Nat.lt_trichotomy j A.length with h | h | h
    · rw [if_neg (by omega), List.getElem?_append_left h, List.getElem?_append_left h]
    · subst h
      rw [if_pos rfl]
      simp
    · obtain ⟨m, hm⟩ : ∃ m, j - A.length = m + 1 := ⟨j - A.length - 1, by omega⟩
      rw [if_neg (by omega), List.getElem?_append_right (by omega), List.getElem?_append_right (by omega), hm]
      simp
  refine wl_skip (w' := { w with heap := w.heap.setIfInBounds g (.map (A ++ (⟨e'.key, v, e'.born⟩ : MapEntry) :: B).toArray ck) }) ?_ (h.to ?_)
  · unfold Rs
    intro a _ _ _ _ hs
    simp only [execOp, hs.ev hx, hs.ev hy, hs.ev hu]
    rw [← hmod]
    simp [Instr.mapUpdate, run_underlying ht, MapKept.run_getObj_map hm.1, run_checkKey hd hk, run_findKey hd h1, run_setObj_map _ hm.1, h3, run_keyThatStays hk]
  · refine h2.step setAt_fr (fun j _ e => by rw [mp_F]; exact e) ?_ (fun j hj => .inl (by rw [mp_F] at hj ⊢; exact hj))
    rw [mp_P]
    refine ⟨by simp [heap_lt hm.1], ?_, ?_⟩
    · have := stamped_modify hm.2.1 A.length (fun x => { x with key := e'.key, val := v }) (fun _ _ => rfl) (fun y _ hy => by
        simp at hy
        subst hy
        rfl)
      rw [hmod] at this
      exact this
    · intro x hx
      rcases List.mem_append.1 hx with e | e
      · exact hm.2.2 x (List.mem_append_left _ e)
      · rcases List.mem_cons.1 e with e | e
        · subst e
          exact hk
        · exact hm.2.2 x (List.mem_append_right _ (List.mem_cons_of_mem _ e))
/-- A loop over a map begins. -/
theorem sl_range (hx : ev l x = some (.map (some g))) (hm : At (mp g d es ck) L) (ht : P.underlying t = some (.map kt e)) (hd : Nat.blt d' n = true)
    (h : ∀ r, SL P ops Q rest n ((d', .pointer (some ⟨r, 0, none⟩)) :: l) (itr r g ck [] :: L)) : SL P ops Q (⟨some d', .range t x, ty, pos, after, none⟩ :: rest) n l L := sl_of fun w hw => by
  have h1 : MapP g d es ck w := mp_P ▸ hw.at hm
  refine wl_run (v := .pointer (some ⟨w.heap.size, 0, none⟩)) (w' := w.alloc (.mapIter (some g) ck #[] ck)) ?_ hd ((h w.heap.size).to ?_)
  · unfold Ru
    intro a _ _ _ _ hs
    simp only [execOp, hs.ev hx]
    rw [Sem.run_bind, run_range_map w t kt e g es.toArray ck ht h1.1]
    rfl
  · refine hw.new ((Fr.refl Nil w).alloc _) ?_ (fun j hj => by rw [itr_F] at hj; omega)
    rw [itr_P]
    unfold ItrP
    exact heap_alloc_new w _
/-- .. goes on: with any that did not come by yet, or it is over. -/
theorem sl_next (hx : ev l x = some (.pointer (some ⟨r, 0, none⟩))) (hm : At (mp g d es ck) L) (hp : Pick (itr r g ck vs) L L') (hv : ∀ y ∈ vs, y ∈ es) (hd : Nat.blt d' n = true)
    (h0 : (∀ y ∈ es, y ∈ vs) → SL P ops Q rest n ((d', .tuple #[.bool false]) :: l) L)
    (h1 : ∀ y ∈ es, y ∉ vs → SL P ops Q rest n ((d', .tuple #[.bool true, y.key, y.val]) :: l) (itr r g ck (vs ++ [y]) :: L')) : SL P ops Q (⟨some d', .next x false, ty, pos, after, none⟩ :: rest) n l L := sl_of fun w hw => by
  have hM : MapP g d es ck w := mp_P ▸ hw.at hm
  have h2 := hw.pick hp
  have hI : ItrP r g ck vs w := itr_P ▸ h2.hd
  unfold ItrP at hI
  rcases run_next_at w ty r g ck ck (vs.map (·.born)).toArray es.toArray ck hI hM.1 (fun x hx => hM.2.1.1 x hx) (Nat.le_refl _) with ⟨hl, hr⟩ | ⟨y, hy, w1, hw1, hr⟩
  · refine wl_run (v := .tuple #[.bool false]) (w' := w) ?_ hd ((h0 fun y hy => ?_).to hw)
    · unfold Ru
      intro a _ _ _ _ hs
      simp only [execOp, hs.ev hx]
      rw [Sem.run_bind, hr]
      rfl
    · have h3 := all_seen es.toArray _ hl y (by simpa using hy)
      simp only [List.contains_toArray, List.contains_iff_mem, List.mem_map] at h3
      obtain ⟨u, hu, hb⟩ := h3
      rw [← born_one hM.2.1 (hv u hu) hy hb]
      exact hu
  · obtain ⟨hye, hyn⟩ := mem_left hy
    have hye' : y ∈ es := by simpa using hye
    have hyv : y ∉ vs := fun hc => by
      have : (vs.map (·.born)).toArray.contains y.born = true := by
        simp only [List.contains_toArray, List.contains_iff_mem, List.mem_map]
        exact ⟨y, hc, rfl⟩
      rw [this] at hyn
      cases hyn
    have hF1 : Fr Nil w w1 := by
      rcases hw1 with rfl | rfl
      · exact Fr.refl _ _
      · exact (Fr.refl _ _).drew
    have hI1 : w1.heap[r]? = some (.mapIter (some g) ck (vs.map (·.born)).toArray ck) := by rcases hw1 with rfl | rfl <;> exact hI
    refine wl_run (v := .tuple #[.bool true, y.key, y.val]) (w' := ChangeMaps.setBlock w1 r (.mapIter (some g) ck ((vs.map (·.born)).toArray.push y.born) ck)) ?_ hd ((h1 y hye' hyv).to ?_)
    · unfold Ru
      intro a _ _ _ _ hs
      simp only [execOp, hs.ev hx]
      rw [Sem.run_bind, hr]
      rfl
    · refine (h2.nil hF1).step (S := fun j => j = r) ?_ (fun j _ e => by rw [itr_F]; exact e) ?_ (fun j hj => .inl (by rw [itr_F] at hj ⊢; exact hj))
      · unfold ChangeMaps.setBlock
        exact setAt_fr
      · rw [itr_P]
        unfold ItrP ChangeMaps.setBlock
        simp [heap_lt hI1]
end
end Go.Proofs.YtfnjeojaahnlfaaDoor
