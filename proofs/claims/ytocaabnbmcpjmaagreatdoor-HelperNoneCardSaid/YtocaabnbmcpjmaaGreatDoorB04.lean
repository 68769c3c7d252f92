/- Several texts of one claim, one behind the other (Px, Mp, St, Es, Sp4). -/
import Derived.Test.YtocaabnbmcpjmaaGreatDoorB02
import Derived.Test.YtocaabnbmcpjmaaGreatDoorB03
import Derived.Maps.RangeRun
import Derived.Laws.StructEq
set_option linter.unusedVariables false
set_option linter.unusedSimpArgs false
/- More steps that only read: an array's element at any number, an array or a string indexed by value, complements. No program is in sight. -/
namespace Go.Proofs.YtocaabnbmcpjmaaGreatDoor
open Go.RowKit
theorem toN_ {p : Int} (h : 0 ≤ p) : p = ((p.toNat : Nat) : Int) := (Int.toNat_of_nonneg h).symm
section
variable {P : Program} {C : World → Prop} {n : Nat} {l : Env} {ty t t' : TypeId} {x y z : Operand} {v u : Value} {k k' : IntKind} {p q : Int} {A : Option Addr} {m c : Nat} {ad : Addr}
theorem pu_indexAddr_y {e : TypeId} {N sz g o : Nat} (hx : ev l x = some (.pointer (some ⟨g, o, none⟩))) (hy : ev l y = some (.int k p)) (ht : P.underlying t = some (.array N e)) (he : szOf P e = some sz) (h0 : 0 ≤ p) (h1 : p < N) :
    Pu P C n l (.indexAddr t x y) ty (.pointer (some ⟨g, o + p.toNat * sz, none⟩)) := by
  obtain ⟨j, rfl⟩ : ∃ j : Nat, p = j := ⟨p.toNat, by omega⟩
  rw [Int.toNat_natCast]
  exact pu_indexAddr_a hx hy ht he (by omega)
/-- The bits that a number does not have. -/
def compl (k : IntKind) (p : Int) : Int := bits .xor k (if k.signed then -1 else k.max) p
theorem pu_com (hx : ev l x = some (.int k p)) : Pu P C n l (.unOp .xor t x) ty (.int k (compl k p)) := by
  unfold Pu
  intro a _ _ _ _ W hs _
  simp only [execOp, hs.ev hx]
  simp [go_sem, compl]
theorem pu_index_arr {e : TypeId} {N : Nat} {cs : List Value} (hx : ev l x = some (.agg cs.toArray)) (hy : ev l y = some (.int k p)) (ht : P.underlying t = some (.array N e)) (he : plainT P e = true) (h0 : 0 ≤ p) (h1 : p < N) (hn : nth cs p.toNat = some v) (hv : v.oneCell' = true) :
    Pu P C n l (.index t x y) ty v := by
  unfold Pu
  intro a _ _ _ _ W hs _
  obtain ⟨⟨d, hu, hagg⟩, i, hi, hsz⟩ := plainT_spec he
  rw [nth_eq] at hn
  simp only [execOp, hs.ev hx, hs.ev hy]
  simp [Instr.index, asIntOf, run_underlying ht, h0, h1, sizeOf, typeInfo, hi, hsz, part, hagg, hn]
theorem pu_slice_m {e : TypeId} {sz i j : Nat} (hx : ev l x = some (.slice A m c)) (hy : ev l y = some (.int k p)) (hz : ev l z = some (.int k' q)) (ht : P.underlying t = some (.slice e)) (he : szOf P e = some sz) (hp : p = (i : Int)) (hq : q = (j : Int)) (h1 : i ≤ j) (h2 : j ≤ c) :
    Pu P C n l (.slice t x none (some y) (some z)) ty (.slice A i j) := by
  subst hp hq
  unfold Pu
  intro a _ _ _ _ W hs _
  have hA : A.map (fun ad => ad.add 0) = A := by cases A <;> simp [Addr.add]
  simp only [execOp, Option.map, hs.ev hx, hs.ev hy, hs.ev hz]
  simp [Instr.sliceAt, Instr.slice, Instr.sliceBounds, Instr.sliceBound, asIntOf, run_underlying ht, run_size he, h1, h2, hA]
theorem pu_index_str {s : ByteArray} {b : UInt8} (hx : ev l x = some (.string s)) (hy : ev l y = some (.int k p)) (ht : P.underlying t = some .string) (h0 : 0 ≤ p) (hn : s[p.toNat]? = some b) :
    Pu P C n l (.index t x y) ty (.int .u8 b.toNat) := by
  unfold Pu
  intro a _ _ _ _ W hs _
  simp only [execOp, hs.ev hx, hs.ev hy]
  simp [Instr.index, asIntOf, run_underlying ht, h0, hn]
end
end Go.Proofs.YtocaabnbmcpjmaaGreatDoor
/- Maps as facts: what is looked up, laid in, counted, trodden in whatever order. No program is in sight. -/
namespace Go.Proofs.YtocaabnbmcpjmaaGreatDoor
open Go.RowKit Go.MapKept
/-- What may be a key: a plain one, or sixteen bytes. -/
def IsK (d : TypeDesc) (v : Value) : Prop := IsKey d v ∨ (∃ e, d = .array 16 e) ∧ ∃ l : List Int, v = .agg (bytes l).toArray ∧ IsBytes l ∧ l.length = 16
theorem IsK.plain {d : TypeDesc} {k v : Value} (hk : IsKey d k) (h : IsK d v) : IsKey d v := by
  rcases h with h | ⟨⟨e, rfl⟩, _⟩
  · exact h
  · cases k <;> exact hk.elim
/-- What the model does with a key. -/
structure KLaw (P : Program) (kt : TypeId) (d : TypeDesc) (k : Value) : Prop where
  isK : IsK d k
  chk : ∀ em w, (Instr.checkKey em 10000 kt k).run P w = .ok () w
  find : ∀ (es : List MapEntry) (w : World), (∀ x ∈ es, IsK d x.key) → (∃ j e, (Instr.findKey kt k es).run P w = .ok (some (j, e.val)) w ∧ es[j]? = some e ∧ e.key = k) ∨ ((Instr.findKey kt k es).run P w = .ok none w ∧ ∀ x ∈ es, x.key ≠ k)
  stay : ∀ w, (Instr.keyThatStays k k).run P w = .ok k w
theorem KLaw.of {P : Program} {kt : TypeId} {d : TypeDesc} {k : Value} (hd : P.underlying kt = some d) (hk : IsKey d k) : KLaw P kt d k where
  isK := .inl hk
  chk := fun em w => run_checkKey hd hk em 9999
  find := fun es w h => by
    rcases findNow_spec hk es 0 (fun x hx => (h x hx).plain hk) with ⟨h1, h2⟩ | ⟨j, e, h1, h2, h3⟩
    · exact .inr ⟨run_findKey hd h1, h2⟩
    · exact .inl ⟨j, e, by simpa using run_findKey hd h1, h2, h3⟩
  stay := fun w => run_keyThatStays hk
def MapP (g : Nat) (d : TypeDesc) (es : List MapEntry) (ck : Nat) (w : World) : Prop := w.heap[g]? = some (.map es.toArray ck) ∧ Stamped es.toArray ck ∧ ∀ x ∈ es, IsK d x.key
theorem heap_lt {w : World} {g : Nat} {o : Obj} (h : w.heap[g]? = some o) : g < w.heap.size := (Array.getElem?_eq_some_iff.1 h).1
/-- A map's entries, in the order in which they came in; the number of entries that came in so far. -/
def mp (g : Nat) (d : TypeDesc) (es : List MapEntry) (ck : Nat) : Fa := ⟨MapP g d es ck, fun k => k = g, fun h e => by rw [e]; exact heap_lt h.1, fun h hF hn => ⟨(hF.block g (heap_lt h.1) (hn g rfl)).trans h.1, h.2⟩⟩
def ItrP (r g ck : Nat) (vs : List MapEntry) (w : World) : Prop := w.heap[r]? = some (.mapIter (some g) ck (vs.map (·.born)).toArray ck)
/-- A loop over a map: those that came by. -/
def itr (r g ck : Nat) (vs : List MapEntry) : Fa := ⟨ItrP r g ck vs, fun k => k = r, fun h e => by rw [e]; exact heap_lt h, fun h hF hn => (hF.block r (heap_lt h) (hn r rfl)).trans h⟩
theorem mp_P {g ck : Nat} {d : TypeDesc} {es : List MapEntry} {w : World} : (mp g d es ck).P w = MapP g d es ck w := rfl
theorem mp_F {g ck k : Nat} {d : TypeDesc} {es : List MapEntry} : (mp g d es ck).F k = (k = g) := rfl
theorem itr_P {r g ck : Nat} {vs : List MapEntry} {w : World} : (itr r g ck vs).P w = ItrP r g ck vs w := rfl
theorem itr_F {r g ck k : Nat} {vs : List MapEntry} : (itr r g ck vs).F k = (k = r) := rfl
attribute [irreducible] mp itr
def MGet (es : List MapEntry) (k v : Value) : Prop := ∃ e ∈ es, e.key = k ∧ e.val = v
def MNo (es : List MapEntry) (k : Value) : Prop := ∀ e ∈ es, e.key ≠ k
section
variable {P : Program} {w : World} {g ck : Nat} {d : TypeDesc} {es : List MapEntry} {k v z : Value} {t kt e : TypeId}
theorem pw_one {α β : Type} {f : α → β} : ∀ {l : List α}, l.Pairwise (fun x y => f x ≠ f y) → ∀ {a b : α}, a ∈ l → b ∈ l → f a = f b → a = b
  | c :: r, hp, a, b, ha, hb, he => by
    rw [List.pairwise_cons] at hp
    rcases List.mem_cons.1 ha with h1 | h1 <;> rcases List.mem_cons.1 hb with h2 | h2
    · rw [h1, h2]
    · subst h1
      exact absurd he (hp.1 b h2)
    · subst h2
      exact absurd he.symm (hp.1 a h1)
    · exact pw_one hp.2 h1 h2 he
theorem key_one (h : Stamped es.toArray ck) {a b : MapEntry} (ha : a ∈ es) (hb : b ∈ es) (hk : a.key = b.key) : a = b := by
  have h3 := ((stamped_iff _ _).1 h).2.2
  rw [List.toList_toArray] at h3
  exact pw_one (f := MapEntry.key) h3 ha hb hk
theorem born_one (h : Stamped es.toArray ck) {a b : MapEntry} (ha : a ∈ es) (hb : b ∈ es) (hk : a.born = b.born) : a = b := by
  have h2 : es.Pairwise (fun x y => x.born ≠ y.born) := by
    have := h.2.1
    rw [List.toList_toArray, List.Nodup, List.pairwise_map] at this
    exact this
  exact pw_one (f := MapEntry.born) h2 ha hb hk
theorem find_get (h : MapP g d es ck w) (hk : KLaw P kt d k) (hg : MGet es k v) (w' : World) : ∃ j e, (Instr.findKey kt k es).run P w' = .ok (some (j, v)) w' ∧ es[j]? = some e ∧ e.key = k ∧ e.val = v := by
  obtain ⟨e0, he0, hk0, hv0⟩ := hg
  rcases hk.find es w' h.2.2 with ⟨j, e, h1, h2, h3⟩ | ⟨_, h2⟩
  · have : e = e0 := key_one h.2.1 (List.mem_of_getElem? h2) he0 (h3.trans hk0.symm)
    subst this
    subst hv0
    exact ⟨j, e, h1, h2, h3, rfl⟩
  · exact absurd hk0 (h2 _ he0)
theorem find_no (h : MapP g d es ck w) (hk : KLaw P kt d k) (hg : MNo es k) (w' : World) : (Instr.findKey kt k es).run P w' = .ok none w' := by
  rcases hk.find es w' h.2.2 with ⟨j, e, h1, h2, h3⟩ | ⟨h1, _⟩
  · exact absurd h3 (hg e (List.mem_of_getElem? h2))
  · exact h1
theorem run_lookK (h : MapP g d es ck w) (ht : P.underlying t = some (.map kt e)) (hk : KLaw P kt d k) (hg : MGet es k v) (c : Bool) : (Instr.lookup t (.map (some g)) k c).run P w = .ok (if c then .tuple #[v, .bool true] else v) w := by
  obtain ⟨j, e, h1, _, _, _⟩ := find_get h hk hg w
  simp [Instr.lookup, run_underlying ht, MapKept.run_getObj_map h.1, hk.chk, h1]
theorem run_look_noK (h : MapP g d es ck w) (ht : P.underlying t = some (.map kt e)) (hk : KLaw P kt d k) (hg : MNo es k) (hz : zeroOf P e = some z) (c : Bool) : (Instr.lookup t (.map (some g)) k c).run P w = .ok (if c then .tuple #[z, .bool false] else z) w := by
  obtain ⟨i, hi, hz'⟩ := zeroOf_spec hz
  simp [Instr.lookup, run_underlying ht, MapKept.run_getObj_map h.1, hk.chk, find_no h hk hg w, zeroValue, typeInfo, hi, hz']
end
section
variable {P : Program} {C : World → Prop} {n : Nat} {l : Env} {ty t kt e : TypeId} {x y : Operand} {g ck r : Nat} {d : TypeDesc} {es vs : List MapEntry} {k v z : Value}
theorem pu_lookK (hb : ∀ W, C W → (mp g d es ck).P W) (hx : ev l x = some (.map (some g))) (hy : ev l y = some k) (ht : P.underlying t = some (.map kt e)) (hk : KLaw P kt d k) (hg : MGet es k v) (c : Bool) : Pu P C n l (.lookup t x y c) ty (if c then .tuple #[v, .bool true] else v) := by
  unfold Pu
  intro a _ _ _ _ W hs hC
  simp only [execOp, hs.ev hx, hs.ev hy]
  simp [run_lookK (mp_P ▸ hb W hC) ht hk hg c]
theorem pu_look_noK (hb : ∀ W, C W → (mp g d es ck).P W) (hx : ev l x = some (.map (some g))) (hy : ev l y = some k) (ht : P.underlying t = some (.map kt e)) (hk : KLaw P kt d k) (hg : MNo es k) (hz : zeroOf P e = some z) (c : Bool) : Pu P C n l (.lookup t x y c) ty (if c then .tuple #[z, .bool false] else z) := by
  unfold Pu
  intro a _ _ _ _ W hs hC
  simp only [execOp, hs.ev hx, hs.ev hy]
  simp [run_look_noK (mp_P ▸ hb W hC) ht hk hg hz c]
theorem pu_look (hb : ∀ W, C W → (mp g d es ck).P W) (hx : ev l x = some (.map (some g))) (hy : ev l y = some k) (ht : P.underlying t = some (.map kt e)) (hd : P.underlying kt = some d) (hk : IsKey d k) (hg : MGet es k v) (c : Bool) : Pu P C n l (.lookup t x y c) ty (if c then .tuple #[v, .bool true] else v) := pu_lookK hb hx hy ht (.of hd hk) hg c
theorem pu_look_no (hb : ∀ W, C W → (mp g d es ck).P W) (hx : ev l x = some (.map (some g))) (hy : ev l y = some k) (ht : P.underlying t = some (.map kt e)) (hd : P.underlying kt = some d) (hk : IsKey d k) (hg : MNo es k) (hz : zeroOf P e = some z) (c : Bool) : Pu P C n l (.lookup t x y c) ty (if c then .tuple #[z, .bool false] else z) := pu_look_noK hb hx hy ht (.of hd hk) hg hz c
theorem pu_lenm (hb : ∀ W, C W → (mp g d es ck).P W) (hx : ev l x = some (.map (some g))) (ht : P.underlying t = some (.map kt e)) : Pu P C n l (.call { callee := .builtin .len, args := #[x], argTypes := #[t] }) ty (.int .i64 es.length) := by
  unfold Pu
  intro a _ _ _ _ W hs hC
  have h := (mp_P ▸ hb W hC : MapP g d es ck W)
  simp only [execOp, resolve, List.map_toArray, List.map_cons, List.map_nil, hs.ev hx]
  simp [invoke, builtin, Builtin.len_, run_underlying ht, MapKept.run_getObj_map h.1, goInt]
theorem pu_entry {me : MapEntry} (hb : ∀ W, C W → (mp g d es ck).P W) (hi : ∀ W, C W → (itr r g ck (vs ++ [me])).P W) (hx : ev l x = some (.pointer (some ⟨r, 0, none⟩))) (he : me ∈ es) : Pu P C n l (.entry x) ty (.tuple #[me.key, me.val]) := by
  unfold Pu
  intro a _ _ _ _ W hs hC
  have h := (mp_P ▸ hb W hC : MapP g d es ck W)
  have h2 := (itr_P ▸ hi W hC : ItrP r g ck (vs ++ [me]) W)
  unfold ItrP at h2
  simp only [execOp, hs.ev hx]
  rw [Sem.run_bind, run_entry_at W r g ck (vs.map (·.born)).toArray es.toArray ck me (by simpa using h2) h.1 (by simpa using he) h.2.1.2.1]
  rfl
end
section
variable {P : Program} {ops : Array Oper} {Q : Exit → Act → World → Prop} {n : Nat} {l : Env} {L L' : List Fa} {rest : List Oper} {d' : Tmp} {ty t kt e : TypeId} {pos : String} {after : Array Edge} {x y u : Operand} {g ck r : Nat} {d : TypeDesc} {es vs A B : List MapEntry} {k v z : Value} {dst : Option Tmp}
theorem sl_makeMap (hd : Nat.blt d' n = true) (h : ∀ g, SL P ops Q rest n ((d', .map (some g)) :: l) (mp g d [] 0 :: L)) : SL P ops Q (⟨some d', .makeMap t none, ty, pos, after, none⟩ :: rest) n l L := sl_of fun w hw => by
  refine wl_run (v := .map (some w.heap.size)) (w' := w.alloc (.map #[] 0)) ?_ hd ((h w.heap.size).to ?_)
  · unfold Ru
    intro a _ _ _ _ hs
    simp [execOp, Instr.makeMap]
  · refine hw.new ((Fr.refl Nil w).alloc _) ?_ (fun j hj => by rw [mp_F] at hj; omega)
    rw [mp_P]
    exact ⟨heap_alloc_new w _, by simpa using stamped_empty 0, by simp⟩
theorem setAt_fr {w : World} {g : Nat} {o : Obj} : Fr (fun j => j = g) w { w with heap := w.heap.setIfInBounds g o } :=
  ⟨rfl, rfl, rfl, by simp, fun j hj hn => by simp [Array.getElem?_setIfInBounds, Ne.symm hn]⟩
/-- A key that was not there. -/
theorem sl_mapNewK (hx : ev l x = some (.map (some g))) (hy : ev l y = some k) (hu : ev l u = some v) (hp : Pick (mp g d es ck) L L') (ht : P.underlying t = some (.map kt e)) (hk : KLaw P kt d k) (hg : MNo es k)
    (h : SL P ops Q rest n l (mp g d (es ++ [⟨k, v, ck⟩]) (ck + 1) :: L')) : SL P ops Q (⟨none, .mapUpdate t x y u, ty, pos, after, none⟩ :: rest) n l L := sl_of fun w hw => by
  have h2 := hw.pick hp
  have hm : MapP g d es ck w := mp_P ▸ h2.hd
  refine wl_skip (w' := { w with heap := w.heap.setIfInBounds g (.map (es ++ [(⟨k, v, ck⟩ : MapEntry)]).toArray (ck + 1)) }) ?_ (h.to ?_)
  · unfold Rs
    intro a _ _ _ _ hs
    simp only [execOp, hs.ev hx, hs.ev hy, hs.ev hu]
    simp [Instr.mapUpdate, run_underlying ht, MapKept.run_getObj_map hm.1, hk.chk, find_no hm hk hg w, run_setObj_map _ hm.1]
  · refine h2.step setAt_fr (fun j _ e => by rw [mp_F]; exact e) ?_ (fun j hj => .inl (by rw [mp_F] at hj ⊢; exact hj))
    rw [mp_P]
    refine ⟨by simp [heap_lt hm.1], ?_, ?_⟩
    · have := stamped_push hm.2.1 (key := k) (val := v) (by simpa [MNo] using hg)
      simpa using this
    · intro x hx
      rcases List.mem_append.1 hx with e | e
      · exact hm.2.2 x e
      · rw [List.mem_singleton] at e
        subst e
        exact hk.isK
theorem sl_mapNew (hx : ev l x = some (.map (some g))) (hy : ev l y = some k) (hu : ev l u = some v) (hp : Pick (mp g d es ck) L L') (ht : P.underlying t = some (.map kt e)) (hd : P.underlying kt = some d) (hk : IsKey d k) (hg : MNo es k)
    (h : SL P ops Q rest n l (mp g d (es ++ [⟨k, v, ck⟩]) (ck + 1) :: L')) : SL P ops Q (⟨none, .mapUpdate t x y u, ty, pos, after, none⟩ :: rest) n l L := sl_mapNewK hx hy hu hp ht (.of hd hk) hg h
/-- One that was. -/
theorem sl_mapPutK {me : MapEntry} (hx : ev l x = some (.map (some g))) (hy : ev l y = some me.key) (hu : ev l u = some v) (hp : Pick (mp g d (A ++ me :: B) ck) L L') (ht : P.underlying t = some (.map kt e)) (hk : KLaw P kt d me.key)
    (h : SL P ops Q rest n l (mp g d (A ++ ⟨me.key, v, me.born⟩ :: B) ck :: L')) : SL P ops Q (⟨none, .mapUpdate t x y u, ty, pos, after, none⟩ :: rest) n l L := sl_of fun w hw => by
  have h2 := hw.pick hp
  have hm : MapP g d (A ++ me :: B) ck w := mp_P ▸ h2.hd
  have hin : me ∈ A ++ me :: B := by simp
  obtain ⟨j, e', h1, h3, h4, h5⟩ := find_get hm hk ⟨me, hin, rfl, rfl⟩ w
  have h6 : e' = me := key_one hm.2.1 (List.mem_of_getElem? h3) hin h4
  subst h6
  have hj : j = A.length := by
    have hn := hm.2.1.2.1
    rw [List.toList_toArray] at hn
    obtain ⟨hl, h7⟩ := List.getElem?_eq_some_iff.1 h3
    refine (List.getElem?_inj (l := (A ++ e' :: B).map (·.born)) (by simpa using hl) hn).1 ?_
    rw [List.getElem?_map, List.getElem?_map, h3]
    simp
  subst hj
  have hmod : (A ++ e' :: B).toArray.modify A.length (fun x => { x with key := e'.key, val := v }) = (A ++ ⟨e'.key, v, e'.born⟩ :: B).toArray := by
    apply Array.ext'
    apply List.ext_getElem?
    intro j
    rw [Array.getElem?_toList, Array.getElem?_modify, List.getElem?_toArray, List.toList_toArray]
    rcases Nat.lt_trichotomy j A.length with h | h | h
    · rw [if_neg (by omega), List.getElem?_append_left h, List.getElem?_append_left h]
    · subst h
      rw [if_pos rfl]
      simp
    · obtain ⟨m, hm⟩ : ∃ m, j - A.length = m + 1 := ⟨j - A.length - 1, by omega⟩
      rw [if_neg (by omega), List.getElem?_append_right (by omega), List.getElem?_append_right (by omega), hm]
      simp
  refine wl_skip (w' := { w with heap := w.heap.setIfInBounds g (.map (A ++ (⟨e'.key, v, e'.born⟩ : MapEntry) :: B).toArray ck) }) ?_ (h.to ?_)
  · unfold Rs
    intro a _ _ _ _ hs
    simp only [execOp, hs.ev hx, hs.ev hy, hs.ev hu]
    rw [← hmod]
    simp [Instr.mapUpdate, run_underlying ht, MapKept.run_getObj_map hm.1, hk.chk, h1, run_setObj_map _ hm.1, h3, hk.stay]
  · refine h2.step setAt_fr (fun j _ e => by rw [mp_F]; exact e) ?_ (fun j hj => .inl (by rw [mp_F] at hj ⊢; exact hj))
    rw [mp_P]
    refine ⟨by simp [heap_lt hm.1], ?_, ?_⟩
    · have := stamped_modify hm.2.1 A.length (fun x => { x with key := e'.key, val := v }) (fun _ _ => rfl) (fun y _ hy => by
        simp at hy
        subst hy
        rfl)
      rw [hmod] at this
      exact this
    · intro x hx
      rcases List.mem_append.1 hx with e | e
      · exact hm.2.2 x (List.mem_append_left _ e)
      · rcases List.mem_cons.1 e with e | e
        · subst e
          exact hk.isK
        · exact hm.2.2 x (List.mem_append_right _ (List.mem_cons_of_mem _ e))
theorem sl_mapPut {me : MapEntry} (hx : ev l x = some (.map (some g))) (hy : ev l y = some me.key) (hu : ev l u = some v) (hp : Pick (mp g d (A ++ me :: B) ck) L L') (ht : P.underlying t = some (.map kt e)) (hd : P.underlying kt = some d) (hk : IsKey d me.key)
    (h : SL P ops Q rest n l (mp g d (A ++ ⟨me.key, v, me.born⟩ :: B) ck :: L')) : SL P ops Q (⟨none, .mapUpdate t x y u, ty, pos, after, none⟩ :: rest) n l L := sl_mapPutK hx hy hu hp ht (.of hd hk) h
/-- A loop over a map begins. -/
theorem sl_range (hx : ev l x = some (.map (some g))) (hm : At (mp g d es ck) L) (ht : P.underlying t = some (.map kt e)) (hd : Nat.blt d' n = true)
    (h : ∀ r, SL P ops Q rest n ((d', .pointer (some ⟨r, 0, none⟩)) :: l) (itr r g ck [] :: L)) : SL P ops Q (⟨some d', .range t x, ty, pos, after, none⟩ :: rest) n l L := sl_of fun w hw => by
  have h1 : MapP g d es ck w := mp_P ▸ hw.at hm
  refine wl_run (v := .pointer (some ⟨w.heap.size, 0, none⟩)) (w' := w.alloc (.mapIter (some g) ck #[] ck)) ?_ hd ((h w.heap.size).to ?_)
  · unfold Ru
    intro a _ _ _ _ hs
    simp only [execOp, hs.ev hx]
    rw [Sem.run_bind, run_range_map w t kt e g es.toArray ck ht h1.1]
    rfl
  · refine hw.new ((Fr.refl Nil w).alloc _) ?_ (fun j hj => by rw [itr_F] at hj; omega)
    rw [itr_P]
    unfold ItrP
    exact heap_alloc_new w _
/-- .. goes on: with any that did not come by yet, or it is over. -/
theorem sl_next (hx : ev l x = some (.pointer (some ⟨r, 0, none⟩))) (hm : At (mp g d es ck) L) (hp : Pick (itr r g ck vs) L L') (hv : ∀ y ∈ vs, y ∈ es) (hd : Nat.blt d' n = true)
    (h0 : (∀ y ∈ es, y ∈ vs) → SL P ops Q rest n ((d', .tuple #[.bool false]) :: l) L)
    (h1 : ∀ y ∈ es, y ∉ vs → SL P ops Q rest n ((d', .tuple #[.bool true, y.key, y.val]) :: l) (itr r g ck (vs ++ [y]) :: L')) : SL P ops Q (⟨some d', .next x false, ty, pos, after, none⟩ :: rest) n l L := sl_of fun w hw => by
  have hM : MapP g d es ck w := mp_P ▸ hw.at hm
  have h2 := hw.pick hp
  have hI : ItrP r g ck vs w := itr_P ▸ h2.hd
  unfold ItrP at hI
  rcases run_next_at w ty r g ck ck (vs.map (·.born)).toArray es.toArray ck hI hM.1 (fun x hx => hM.2.1.1 x hx) (Nat.le_refl _) with ⟨hl, hr⟩ | ⟨y, hy, w1, hw1, hr⟩
  · refine wl_run (v := .tuple #[.bool false]) (w' := w) ?_ hd ((h0 fun y hy => ?_).to hw)
    · unfold Ru
      intro a _ _ _ _ hs
      simp only [execOp, hs.ev hx]
      rw [Sem.run_bind, hr]
      rfl
    · have h3 := all_seen es.toArray _ hl y (by simpa using hy)
      simp only [List.contains_toArray, List.contains_iff_mem, List.mem_map] at h3
      obtain ⟨u, hu, hb⟩ := h3
      rw [← born_one hM.2.1 (hv u hu) hy hb]
      exact hu
  · obtain ⟨hye, hyn⟩ := mem_left hy
    have hye' : y ∈ es := by simpa using hye
    have hyv : y ∉ vs := fun hc => by
      have : (vs.map (·.born)).toArray.contains y.born = true := by
        simp only [List.contains_toArray, List.contains_iff_mem, List.mem_map]
        exact ⟨y, hc, rfl⟩
      rw [this] at hyn
      cases hyn
    have hF1 : Fr Nil w w1 := by
      rcases hw1 with rfl | rfl
      · exact Fr.refl _ _
      · exact (Fr.refl _ _).drew
    have hI1 : w1.heap[r]? = some (.mapIter (some g) ck (vs.map (·.born)).toArray ck) := by rcases hw1 with rfl | rfl <;> exact hI
    refine wl_run (v := .tuple #[.bool true, y.key, y.val]) (w' := ChangeMaps.setBlock w1 r (.mapIter (some g) ck ((vs.map (·.born)).toArray.push y.born) ck)) ?_ hd ((h1 y hye' hyv).to ?_)
    · unfold Ru
      intro a _ _ _ _ hs
      simp only [execOp, hs.ev hx]
      rw [Sem.run_bind, hr]
      rfl
    · refine (h2.nil hF1).step (S := fun j => j = r) ?_ (fun j _ e => by rw [itr_F]; exact e) ?_ (fun j hj => .inl (by rw [itr_F] at hj ⊢; exact hj))
      · unfold ChangeMaps.setBlock
        exact setAt_fr
      · rw [itr_P]
        unfold ItrP ChangeMaps.setBlock
        simp [heap_lt hI1]
end
end Go.Proofs.YtocaabnbmcpjmaaGreatDoor
/- The steps of the walk as relations, so that one short text finds each. No program is in sight. -/
namespace Go.Proofs.YtocaabnbmcpjmaaGreatDoor
open Go.RowKit Go.MapKept

/-- Decided, or not. -/
inductive Dc : Prop → Bool → Prop
  | t {φ : Prop} (h : φ) : Dc φ true
  | f {φ : Prop} (h : ¬ φ) : Dc φ false
  | u {φ : Prop} [Decidable φ] : Dc φ (decide φ)
theorem Dc.eq {φ : Prop} [Decidable φ] {b : Bool} (h : Dc φ b) : decide φ = b := by
  cases h with
  | t h => simp [h]
  | f h => simp [h]
  | u => congr
/-- One of two. -/
inductive Pk {α : Type} : Bool → Option α → Option α → α → Prop
  | t {v : α} {o : Option α} : Pk true (some v) o v
  | f {v : α} {o : Option α} : Pk false o (some v) v
/-- A number within its kind. -/
inductive Wr : IntKind → Int → Int → Prop
  | i {r : Int} (h : -9223372036854775808 ≤ r ∧ r ≤ 9223372036854775807) : Wr .i64 r r
  | v {r : Int} (h : 0 ≤ r ∧ r ≤ 18446744073709551615) : Wr .u64 r r
  | b {r : Int} (h : 0 ≤ r ∧ r ≤ 255) : Wr .u8 r r
  | q {r : Int} (h : 0 ≤ r ∧ r ≤ 4294967295) : Wr .u32 r r
  | w {k : IntKind} {r : Int} : Wr k r (k.wrap r)
theorem Wr.eq {k : IntKind} {r s : Int} (h : Wr k r s) : k.wrap r = s := by
  cases h with
  | i h => exact IntWalk.i64_in _ h
  | v h => rw [IntKind.wrap_u64, Int.emod_eq_of_lt h.1 (by omega)]
  | b h => rw [IntKind.wrap_u8, Int.emod_eq_of_lt h.1 (by omega)]
  | q h =>
    simp [IntKind.wrap, IntKind.bits, IntKind.signed]
    omega
  | w => rfl
/-- What the kernel is asked. -/
structure KR (φ : Prop) : Prop where
  h : φ
inductive EqV (P : Program) (t : TypeId) : Value → Value → Bool → Prop
  | i {k : IntKind} {p q : Int} {b : Bool} (h : Dc (p = q) b) : EqV P t (.int k p) (.int k q) b
  | o {b c : Bool} (h : P.underlying t = some .bool) : EqV P t (.bool b) (.bool c) (b == c)
  | s {s : ByteArray} : EqV P t (.string s) (.string s) true
  | n {s u : ByteArray} : EqV P t (.string s) (.string u) (s.toList == u.toList)
  | p {e : TypeId} {a : Addr} (h : P.underlying t = some (.pointer e)) : EqV P t (.pointer (some a)) (.pointer none) false
  | q {e : TypeId} (h : P.underlying t = some (.pointer e)) : EqV P t (.pointer none) (.pointer none) true
  | c {e : TypeId} {a : Addr} {m c : Nat} (h : P.underlying t = some (.slice e)) : EqV P t (.slice (some a) m c) (.slice none 0 0) false
  | d {e : TypeId} {m c : Nat} (h : P.underlying t = some (.slice e)) : EqV P t (.slice none m c) (.slice none 0 0) true
/-- What two numbers make. -/
inductive ArV : BinOp → Value → Value → Value → Prop
  | add {k : IntKind} {p q r : Int} (h : Wr k (p + q) r) : ArV .add (.int k p) (.int k q) (.int k r)
  | sub {k : IntKind} {p q r : Int} (h : Wr k (p - q) r) : ArV .sub (.int k p) (.int k q) (.int k r)
  | mul {k : IntKind} {p q r : Int} (h : Wr k (p * q) r) : ArV .mul (.int k p) (.int k q) (.int k r)
  | quo {k : IntKind} {p q r : Int} (h0 : 0 ≤ p) (h1 : 0 < q) (h : Wr k (p / q) r) : ArV .quo (.int k p) (.int k q) (.int k r)
  | rem {k : IntKind} {p q : Int} (h0 : 0 ≤ p) (h1 : 0 < q) : ArV .rem (.int k p) (.int k q) (.int k (p % q))
  | and {k : IntKind} {p q : Int} : ArV .and (.int k p) (.int k q) (.int k (bits .and k p q))
  | or {k : IntKind} {p q : Int} : ArV .or (.int k p) (.int k q) (.int k (bits .or k p q))
  | xor {k : IntKind} {p q : Int} : ArV .xor (.int k p) (.int k q) (.int k (bits .xor k p q))
  | lss {k : IntKind} {p q : Int} {b : Bool} (h : Dc (p < q) b) : ArV .lss (.int k p) (.int k q) (.bool b)
  | leq {k : IntKind} {p q : Int} {b : Bool} (h : Dc (p ≤ q) b) : ArV .leq (.int k p) (.int k q) (.bool b)
  | gtr {k : IntKind} {p q : Int} {b : Bool} (h : Dc (q < p) b) : ArV .gtr (.int k p) (.int k q) (.bool b)
  | geq {k : IntKind} {p q : Int} {b : Bool} (h : Dc (q ≤ p) b) : ArV .geq (.int k p) (.int k q) (.bool b)
inductive ShV : Value → Value → Value → Prop
  | o {k k' : IntKind} {p : Int} (h : 1 ≤ (k.bits : Int)) : ShV (.int k p) (.int k' 1) (.int k (p / 2))
  | f {k k' : IntKind} {p : Int} (h : 4 ≤ (k.bits : Int)) : ShV (.int k p) (.int k' 4) (.int k (p / 16))
  | n {k k' : IntKind} {p q : Int} (h : 0 ≤ q) (h' : q ≤ (k.bits : Int)) : ShV (.int k p) (.int k' q) (.int k (p / 2 ^ q.toNat))
inductive LdV (P : Program) (L : List Fa) (t : TypeId) : Addr → Value → Prop
  | b {g i : Nat} {t' : TypeId} {cs : List Value} {v : Value} (h : At (blk g t' cs) L) (ht : plainT P t = true) (hn : nth cs i = some v) : LdV P L t ⟨g, i, none⟩ v
  | w {g : Nat} {t' : TypeId} {td : TypeDesc} {cs : List Value} (h : At (blk g t' cs) L) (hu : P.underlying t = some td) (hd : (match td with | .struct _ | .array _ _ => true | _ => false) = true) (hs : szOf P t = some cs.length) : LdV P L t ⟨g, 0, none⟩ (.agg cs.toArray)
  | s {g i : Nat} {t' : TypeId} {td : TypeDesc} {cs cl : List Value} (h : At (blk g t' cs) L) (hm : Mid cs i cl) (hu : P.underlying t = some td) (hd : (match td with | .struct _ | .array _ _ => true | _ => false) = true) (hs : szOf P t = some cl.length) : LdV P L t ⟨g, i, none⟩ (.agg cl.toArray)
  | o {e : TypeId} {size n c i : Nat} {a : Addr} {xs : List Value} {v : Value} (h : At (own e size (some a) n c xs) L) (hm : 0 < n) (ht : plainT P t = true) (hn : nth xs i = some v) : LdV P L t (a.add i) v
  | m {e : TypeId} {size n c i : Nat} {a : Addr} {td : TypeDesc} {xs cl : List Value} (h : At (own e size (some a) n c xs) L) (hm : 0 < n) (hd0 : Mid xs i cl) (hu : P.underlying t = some td) (hd : (match td with | .struct _ | .array _ _ => true | _ => false) = true) (hs : szOf P t = some cl.length) : LdV P L t (a.add i) (.agg cl.toArray)
def evo (l : Env) : Option Operand → Option (Option Value)
  | none => some none
  | some x => match ev l x with
    | some v => some (some v)
    | none => none
inductive SlV (P : Program) (t : TypeId) : Value → Option Value → Option Value → Value → Prop
  | a {e : TypeId} {sz m c : Nat} {A : Option Addr} (ht : P.underlying t = some (.slice e)) (hs : szOf P e = some sz) (h : m ≤ c) : SlV P t (.slice A m c) none none (.slice A m c)
  | r {e : TypeId} {sz n : Nat} {a : Addr} (ht : P.underlying t = some (.array n e)) (hs : szOf P e = some sz) : SlV P t (.pointer (some a)) none none (.slice (some a) n n)
  | h {e : TypeId} {sz m c j : Nat} {A : Option Addr} {k : IntKind} {p : Int} (ht : P.underlying t = some (.slice e)) (hs : szOf P e = some sz) (hp : p = (j : Int)) (h : j ≤ c) : SlV P t (.slice A m c) none (some (.int k p)) (.slice A j c)
  | l {e : TypeId} {sz m c j : Nat} {A : Option Addr} {k : IntKind} {p : Int} (ht : P.underlying t = some (.slice e)) (hs : szOf P e = some sz) (hp : p = (j : Int)) (h : j ≤ m) (h2 : m ≤ c) : SlV P t (.slice A m c) (some (.int k p)) none (.slice (cutA A c j sz) (m - j) (c - j))
  | g {e : TypeId} {sz m c i j : Nat} {A : Option Addr} {k k' : IntKind} {p q : Int} (ht : P.underlying t = some (.slice e)) (hs : szOf P e = some sz) (hp : p = (i : Int)) (hq : q = (j : Int)) (h : i ≤ j) (h2 : j ≤ c) : SlV P t (.slice A m c) (some (.int k p)) (some (.int k' q)) (.slice (cutA A c i sz) (j - i) (c - i))
inductive IxV (P : Program) (t : TypeId) : Value → Value → Value → Prop
  | n {e : TypeId} {sz m c j : Nat} {a : Addr} {k : IntKind} (ht : P.underlying t = some (.slice e)) (hs : szOf P e = some sz) (h : j < m) : IxV P t (.slice (some a) m c) (.int k (j : Int)) (.pointer (some (a.add (j * sz))))
  | a {e : TypeId} {sz N j g o : Nat} {k : IntKind} (ht : P.underlying t = some (.array N e)) (hs : szOf P e = some sz) (h : j < N) : IxV P t (.pointer (some ⟨g, o, none⟩)) (.int k (j : Int)) (.pointer (some ⟨g, o + j * sz, none⟩))
  | p {e : TypeId} {sz m c : Nat} {a : Addr} {k : IntKind} {p : Int} (ht : P.underlying t = some (.slice e)) (hs : szOf P e = some sz) (h : 0 ≤ p) (h2 : p < m) : IxV P t (.slice (some a) m c) (.int k p) (.pointer (some (a.add (p.toNat * sz))))
  | y {e : TypeId} {sz N g o : Nat} {k : IntKind} {p : Int} (ht : P.underlying t = some (.array N e)) (hs : szOf P e = some sz) (h : 0 ≤ p) (h2 : p < N) : IxV P t (.pointer (some ⟨g, o, none⟩)) (.int k p) (.pointer (some ⟨g, o + p.toNat * sz, none⟩))
/-- What a map holds at a key. -/
inductive LkV (P : Program) (L : List Fa) (t : TypeId) : Nat → Value → Bool → Value → Prop
  | t {g ck : Nat} {d : TypeDesc} {kt e : TypeId} {es : List MapEntry} {k v : Value} (h : At (mp g d es ck) L) (ht : P.underlying t = some (.map kt e)) (hd : P.underlying kt = some d) (hk : IsKey d k) (hg : MGet es k v) : LkV P L t g k true (.tuple #[v, .bool true])
  | f {g ck : Nat} {d : TypeDesc} {kt e : TypeId} {es : List MapEntry} {k z : Value} (h : At (mp g d es ck) L) (ht : P.underlying t = some (.map kt e)) (hd : P.underlying kt = some d) (hk : IsKey d k) (hg : MNo es k) (hz : zeroOf P e = some z) : LkV P L t g k true (.tuple #[z, .bool false])
  | t1 {g ck : Nat} {d : TypeDesc} {kt e : TypeId} {es : List MapEntry} {k v : Value} (h : At (mp g d es ck) L) (ht : P.underlying t = some (.map kt e)) (hd : P.underlying kt = some d) (hk : IsKey d k) (hg : MGet es k v) : LkV P L t g k false v
  | f1 {g ck : Nat} {d : TypeDesc} {kt e : TypeId} {es : List MapEntry} {k z : Value} (h : At (mp g d es ck) L) (ht : P.underlying t = some (.map kt e)) (hd : P.underlying kt = some d) (hk : IsKey d k) (hg : MNo es k) (hz : zeroOf P e = some z) : LkV P L t g k false z
  | tk {g ck : Nat} {d : TypeDesc} {kt e : TypeId} {es : List MapEntry} {k v : Value} (h : At (mp g d es ck) L) (ht : P.underlying t = some (.map kt e)) (hk : KLaw P kt d k) (hg : MGet es k v) : LkV P L t g k true (.tuple #[v, .bool true])
  | fk {g ck : Nat} {d : TypeDesc} {kt e : TypeId} {es : List MapEntry} {k z : Value} (h : At (mp g d es ck) L) (ht : P.underlying t = some (.map kt e)) (hk : KLaw P kt d k) (hg : MNo es k) (hz : zeroOf P e = some z) : LkV P L t g k true (.tuple #[z, .bool false])
  | tk1 {g ck : Nat} {d : TypeDesc} {kt e : TypeId} {es : List MapEntry} {k v : Value} (h : At (mp g d es ck) L) (ht : P.underlying t = some (.map kt e)) (hk : KLaw P kt d k) (hg : MGet es k v) : LkV P L t g k false v
  | fk1 {g ck : Nat} {d : TypeDesc} {kt e : TypeId} {es : List MapEntry} {k z : Value} (h : At (mp g d es ck) L) (ht : P.underlying t = some (.map kt e)) (hk : KLaw P kt d k) (hg : MNo es k) (hz : zeroOf P e = some z) : LkV P L t g k false z
/-- A value out of an array, a byte out of a string. -/
inductive IvV (P : Program) (t : TypeId) : Value → Int → Value → Prop
  | r {e : TypeId} {N : Nat} {cs : List Value} {p : Int} {v : Value} (ht : P.underlying t = some (.array N e)) (he : plainT P e = true) (h0 : 0 ≤ p) (h1 : p < N) (hn : nth cs p.toNat = some v) (hv : v.oneCell' = true) : IvV P t (.agg cs.toArray) p v
  | s {s : ByteArray} {p : Int} {b : UInt8} (ht : P.underlying t = some .string) (h0 : 0 ≤ p) (hn : s[p.toNat]? = some b) : IvV P t (.string s) p (.int .u8 b.toNat)
inductive FaV (P : Program) (t : TypeId) (i : Nat) : Addr → Addr → Prop
  | z {g o : Nat} {fs : List Field} (ht : P.underlying t = some (.struct fs.toArray)) (hf : fieldOff fs i = some o) (hz : KR (stOf P t = true)) : FaV P t i ⟨g, 0, none⟩ ⟨g, o, none⟩
  | b {g j o : Nat} {fs : List Field} (ht : P.underlying t = some (.struct fs.toArray)) (hf : fieldOff fs i = some o) (hz : KR (stOf P t = true)) : FaV P t i ⟨g, j, none⟩ ⟨g, j + o, none⟩
  | a {a : Addr} {o : Nat} {fs : List Field} (ht : P.underlying t = some (.struct fs.toArray)) (hf : fieldOff fs i = some o) (hz : KR (stOf P t = true)) : FaV P t i a (a.add o)
/-- len, cap, min, max. -/
inductive BiV (P : Program) (L : List Fa) : Builtin → List Value → List TypeId → Value → Prop
  | len {e t : TypeId} {A : Option Addr} {m c : Nat} (h : P.underlying t = some (.slice e)) : BiV P L .len [.slice A m c] [t] (.int .i64 m)
  | str {t : TypeId} {s : ByteArray} (h : P.underlying t = some .string) : BiV P L .len [.string s] [t] (.int .i64 s.size)
  | cap {e t : TypeId} {A : Option Addr} {m c : Nat} (h : P.underlying t = some (.slice e)) : BiV P L .cap [.slice A m c] [t] (.int .i64 c)
  | mlen {t kt e : TypeId} {g ck : Nat} {d : TypeDesc} {es : List MapEntry} (hb : At (mp g d es ck) L) (h : P.underlying t = some (.map kt e)) : BiV P L .len [.map (some g)] [t] (.int .i64 es.length)
  | min {t t' : TypeId} {k k' : IntKind} {p q : Int} : BiV P L .min [.int k p, .int k' q] [t, t'] (.int k (if q < p then q else p))
  | max {t t' : TypeId} {k k' : IntKind} {p q : Int} : BiV P L .max [.int k p, .int k' q] [t, t'] (.int k (if p < q then q else p))

/-- What an operation is worth, where the facts L are known. -/
inductive PuI (P : Program) (L : List Fa) (l : Env) : Op → Value → Prop
  | move {x : Operand} {v : Value} (h : ev l x = some v) : PuI P L l (.move x) v
  | assign {x : Operand} {v : Value} (h : ev l x = some v) : PuI P L l (.assign x) v
  | pick {x y z : Operand} {b : Bool} {v : Value} (h : ev l x = some (.bool b)) (hp : Pk b (ev l y) (ev l z) v) : PuI P L l (.pick x y z) v
  | not {t : TypeId} {x : Operand} {b : Bool} (h : ev l x = some (.bool b)) : PuI P L l (.unOp .not t x) (.bool (!b))
  | neg {t : TypeId} {x : Operand} {k : IntKind} {p r : Int} (h : ev l x = some (.int k p)) (hw : Wr k (-p) r) : PuI P L l (.unOp .neg t x) (.int k r)
  | eql {t t' : TypeId} {x y : Operand} {v u : Value} {b : Bool} (h : ev l x = some v) (h2 : ev l y = some u) (he : EqV P t v u b) : PuI P L l (.binOp .eql t x y t') (.bool b)
  | neq {t t' : TypeId} {x y : Operand} {v u : Value} {b : Bool} (h : ev l x = some v) (h2 : ev l y = some u) (he : EqV P t v u b) : PuI P L l (.binOp .neq t x y t') (.bool (!b))
  | shl {t t' : TypeId} {x y : Operand} {k k' : IntKind} {p q r : Int} (h : ev l x = some (.int k p)) (h2 : ev l y = some (.int k' q)) (h0 : 0 ≤ q) (h1 : q ≤ k.bits) (hw : Wr k (p * 2 ^ q.toNat) r) : PuI P L l (.binOp .shl t x y t') (.int k r)
  | shr {t t' : TypeId} {x y : Operand} {v u r : Value} (h : ev l x = some v) (h2 : ev l y = some u) (hs : ShV v u r) : PuI P L l (.binOp .shr t x y t') r
  | ar {o : BinOp} {t t' : TypeId} {x y : Operand} {v u r : Value} (h : ev l x = some v) (h2 : ev l y = some u) (ha : ArV o v u r) : PuI P L l (.binOp o t x y t') r
  | load {t : TypeId} {x : Operand} {a : Addr} {v : Value} (h : ev l x = some (.pointer (some a))) (hl : LdV P L t a v) : PuI P L l (.load t x) v
  | fa {t : TypeId} {x : Operand} {i : Nat} {a b : Addr} (h : ev l x = some (.pointer (some a))) (hf : FaV P t i a b) : PuI P L l (.fieldAddr t x i) (.pointer (some b))
  | nilCheck {x : Operand} {a : Addr} (h : ev l x = some (.pointer (some a))) : PuI P L l (.nilCheck x) (.pointer (some a))
  | com {t : TypeId} {x : Operand} {k : IntKind} {p : Int} (h : ev l x = some (.int k p)) : PuI P L l (.unOp .xor t x) (.int k (compl k p))
  | look {t : TypeId} {x y : Operand} {c : Bool} {g : Nat} {k v : Value} (h : ev l x = some (.map (some g))) (h2 : ev l y = some k) (hl : LkV P L t g k c v) : PuI P L l (.lookup t x y c) v
  | entry {x : Operand} {r g ck : Nat} {d : TypeDesc} {es vs : List MapEntry} {me : MapEntry} (h : ev l x = some (.pointer (some ⟨r, 0, none⟩))) (hi : At (itr r g ck (vs ++ [me])) L) (hb : At (mp g d es ck) L) (he : me ∈ es) : PuI P L l (.entry x) (.tuple #[me.key, me.val])
  | sl3 {t e : TypeId} {x y z : Operand} {A : Option Addr} {m c i j sz : Nat} {k k' : IntKind} {p q : Int} (h : ev l x = some (.slice A m c)) (h2 : ev l y = some (.int k p)) (h3 : ev l z = some (.int k' q)) (ht : P.underlying t = some (.slice e)) (hs : szOf P e = some sz) (hp : p = (i : Int)) (hq : q = (j : Int)) (h1 : i ≤ j) (h4 : j ≤ c) : PuI P L l (.slice t x none (some y) (some z)) (.slice A i j)
  | index {t : TypeId} {x y : Operand} {k : IntKind} {p : Int} {v u : Value} (h : ev l x = some v) (h2 : ev l y = some (.int k p)) (hi : IvV P t v p u) : PuI P L l (.index t x y) u
  | extract {x : Operand} {i : Nat} {vs : List Value} {v : Value} (h : ev l x = some (.tuple vs.toArray)) (hn : nth vs i = some v) : PuI P L l (.extract x i) v
  | mkf {f : FuncId} {xs : List Operand} {vs : List Value} (h : evs l xs = some vs) : PuI P L l (.makeFunc (.func f) #[] xs.toArray) (.func (.func f) #[] vs.toArray)
  | conv {t t' : TypeId} {x : Operand} {k k' : IntKind} {p r : Int} (h : ev l x = some (.int k p)) (hs : (P.underlying t).isSome = true) (hd : P.underlying t' = some (.int k')) (hw : Wr k' p r) : PuI P L l (.convert t t' x) (.int k' r)
  | bi {b : Builtin} {xs : List Operand} {ts : List TypeId} {vs : List Value} {v : Value} (h : evs l xs = some vs) (hb : BiV P L b vs ts v) : PuI P L l (.call { callee := .builtin b, args := xs.toArray, argTypes := ts.toArray }) v
  | ia {t : TypeId} {x y : Operand} {v u r : Value} (h : ev l x = some v) (h2 : ev l y = some u) (hi : IxV P t v u r) : PuI P L l (.indexAddr t x y) r
  | sl {t : TypeId} {x : Operand} {lo hi : Option Operand} {v r : Value} {a b : Option Value} (h : ev l x = some v) (h2 : evo l lo = some a) (h3 : evo l hi = some b) (hs : SlV P t v a b r) : PuI P L l (.slice t x lo hi none) r

section
variable {P : Program} {C : World → Prop} {n : Nat} {l : Env} {L : List Fa} {ty : TypeId} {op : Op} {v : Value}
theorem evs1 {x : Operand} {v : Value} (h : evs l [x] = some [v]) : ev l x = some v := by
  simp only [evs] at h
  cases hx : ev l x with
  | none => rw [hx] at h; cases h
  | some u => rw [hx] at h; simp at h; rw [h]
theorem evs2 {x y : Operand} {v u : Value} (h : evs l [x, y] = some [v, u]) : ev l x = some v ∧ ev l y = some u := by
  simp only [evs] at h
  cases hx : ev l x with
  | none => rw [hx] at h; cases h
  | some a =>
    cases hy : ev l y with
    | none => rw [hx, hy] at h; cases h
    | some b => rw [hx, hy] at h; simp at h; rw [h.1, h.2]; exact ⟨rfl, rfl⟩
theorem evs_len : ∀ {xs : List Operand} {vs : List Value}, evs l xs = some vs → xs.length = vs.length
  | [], vs, h => by simp [evs] at h; subst h; rfl
  | x :: r, vs, h => by
    rw [evs] at h
    split at h
    · rename_i v vs' h1 h2
      simp at h
      subst h
      simp [evs_len h2]
    · cases h
theorem evo_none : ∀ {o : Option Operand}, evo l o = some none → o = none
  | none, _ => rfl
  | some x, h => by
    simp only [evo] at h
    cases hx : ev l x with
    | none => rw [hx] at h; simp at h
    | some v => rw [hx] at h; simp at h
theorem evo_some : ∀ {o : Option Operand} {v : Value}, evo l o = some (some v) → ∃ x, o = some x ∧ ev l x = some v
  | none, v, h => by simp [evo] at h
  | some x, v, h => by
    simp only [evo] at h
    cases hx : ev l x with
    | none => rw [hx] at h; simp at h
    | some u =>
      rw [hx] at h
      simp at h
      exact ⟨x, rfl, by rw [hx, h]⟩
theorem PuI.pu (hC : ∀ W, C W → ∀ f, At f L → f.P W) (h : PuI P L l op v) : Pu P C n l op ty v := by
  cases h with
  | move h => exact pu_move h
  | assign h => exact pu_assign h
  | @pick x y z b v h hp =>
    cases b with
    | true =>
      generalize hy : ev l y = oy at hp
      cases hp
      exact pu_pick_t h hy
    | false =>
      generalize hz : ev l z = oz at hp
      cases hp
      exact pu_pick_f h hz
  | not h => exact pu_not h
  | neg h hw => rw [← hw.eq]; exact pu_neg h
  | eql h h2 he =>
    cases he with
    | i hd => rw [← hd.eq]; exact pu_eql_d h h2
    | o ht => exact pu_bool_eql ht h h2
    | s => exact pu_str_eql_same h h2
    | n => exact pu_str_eql h h2
    | p ht => exact pu_ptr_some_eql h h2 ht
    | q ht => exact pu_ptr_none_eql h h2 ht
    | c ht => exact pu_slice_some_eql h h2 ht
    | d ht => exact pu_slice_none_eql h h2 ht
  | neq h h2 he =>
    cases he with
    | i hd => rw [← hd.eq]; exact pu_neq_d h h2
    | o ht => exact pu_bool_neq ht h h2
    | s => exact pu_str_neq_same h h2
    | n => exact pu_str_neq h h2
    | p ht => exact pu_ptr_some_neq h h2 ht
    | q ht => exact pu_ptr_none_neq h h2 ht
    | c ht => exact pu_slice_some_neq h h2 ht
    | d ht => exact pu_slice_none_neq h h2 ht
  | shl h h2 h0 h1 hw => rw [← hw.eq]; exact pu_shl h h2 h0 h1
  | shr h h2 hs =>
    cases hs with
    | o hb => exact pu_shr_1 h h2 hb
    | f hb => exact pu_shr_4 h h2 hb
    | n h0 hb => exact pu_shr h h2 h0 hb
  | ar h h2 ha =>
    cases ha with
    | add hw => rw [← hw.eq]; exact pu_add_w h h2
    | sub hw => rw [← hw.eq]; exact pu_sub_w h h2
    | mul hw => rw [← hw.eq]; exact pu_mul_w h h2
    | quo h0 h1 hw => rw [← hw.eq]; exact pu_quo_0 h h2 h0 h1
    | rem h0 h1 => exact pu_rem_0 h h2 h0 h1
    | and => exact pu_and h h2
    | or => exact pu_or h h2
    | xor => exact pu_xor h h2
    | lss hd => rw [← hd.eq]; exact pu_lss h h2
    | leq hd => rw [← hd.eq]; exact pu_leq h h2
    | gtr hd => rw [← hd.eq]; exact pu_gtr h h2
    | geq hd => rw [← hd.eq]; exact pu_geq h h2
  | load h hl =>
    cases hl with
    | @b g i t' cs v hb ht hn => exact pu_load_b h ht (fun W hW => by have := hC W hW _ hb; unfold blk at this; exact this) (by simpa using hn)
    | @w g t' td cs hb hu hd hs => exact pu_load_agg (cs := cs) h hu hd (by simpa using hs) (fun W hW j v hj => by
        have hb' : Blk W g t' cs.toArray := by have := hC W hW _ hb; unfold blk at this; exact this
        rw [add_none, Nat.zero_add, hb'.cell]
        simpa using hj)
    | @s g i t' td cs cl hb hm hu hd hs => exact pu_load_agg h hu hd hs (fun W hW j v hj => by
        have hb' : Blk W g t' cs.toArray := by have := hC W hW _ hb; unfold blk at this; exact this
        rw [add_none, hb'.cell]
        simpa using hm j v hj)
    | @o e size m c i a xs v hb hm ht hn => exact pu_load h ht (fun W hW => by
        have hO := hC W hW _ hb
        unfold own at hO
        obtain ⟨ad', e1, h2⟩ := (Reads.of_own hO).2 hm
        cases e1
        exact h2 i v (by rw [← nth_eq]; exact hn))
    | @m e size m c i a td xs cl hb hm hd0 hu hd hs => exact pu_load_agg h hu hd hs (fun W hW j v hj => by
        have hO := hC W hW _ hb
        unfold own at hO
        obtain ⟨ad', e1, h2⟩ := (Reads.of_own hO).2 hm
        cases e1
        rw [add_twice]
        exact h2 _ v (hd0 j v hj))
  | fa h hf =>
    cases hf with
    | z ht hf hz => exact pu_fieldAddr_0 h ht hf hz.h
    | b ht hf hz => exact pu_fieldAddr_b h ht hf hz.h
    | a ht hf hz => exact pu_fieldAddr h ht hf hz.h
  | nilCheck h => exact pu_nilCheck h
  | com h => exact pu_com h
  | look h h2 hl =>
    cases hl with
    | t hb ht hd hk hg => exact pu_look (c := true) (fun W hW => hC W hW _ hb) h h2 ht hd hk hg
    | f hb ht hd hk hg hz => exact pu_look_no (c := true) (fun W hW => hC W hW _ hb) h h2 ht hd hk hg hz
    | t1 hb ht hd hk hg => exact pu_look (c := false) (fun W hW => hC W hW _ hb) h h2 ht hd hk hg
    | f1 hb ht hd hk hg hz => exact pu_look_no (c := false) (fun W hW => hC W hW _ hb) h h2 ht hd hk hg hz
    | tk hb ht hk hg => exact pu_lookK (c := true) (fun W hW => hC W hW _ hb) h h2 ht hk hg
    | fk hb ht hk hg hz => exact pu_look_noK (c := true) (fun W hW => hC W hW _ hb) h h2 ht hk hg hz
    | tk1 hb ht hk hg => exact pu_lookK (c := false) (fun W hW => hC W hW _ hb) h h2 ht hk hg
    | fk1 hb ht hk hg hz => exact pu_look_noK (c := false) (fun W hW => hC W hW _ hb) h h2 ht hk hg hz
  | entry h hi hb he => exact pu_entry (fun W hW => hC W hW _ hb) (fun W hW => hC W hW _ hi) h he
  | sl3 h h2 h3 ht hs hp hq h1 h4 => exact pu_slice_m h h2 h3 ht hs hp hq h1 h4
  | index h h2 hi =>
    cases hi with
    | r ht he h0 h1 hn hv => exact pu_index_arr h h2 ht he h0 h1 hn hv
    | s ht h0 hn => exact pu_index_str h h2 ht h0 hn
  | extract h hn => exact pu_extract h hn
  | mkf h => exact pu_makeFunc h
  | conv h hs hd hw => rw [← hw.eq]; exact pu_conv h hs hd
  | @bi b xs ts vs v h hb =>
    have hl := evs_len h
    cases hb with
    | len ht =>
      match xs, hl with
      | [x], _ => exact pu_len (evs1 h) ht
    | str ht =>
      match xs, hl with
      | [x], _ => exact pu_len_str (evs1 h) ht
    | mlen hb ht =>
      match xs, hl with
      | [x], _ => exact pu_lenm (fun W hW => hC W hW _ hb) (evs1 h) ht
    | cap ht =>
      match xs, hl with
      | [x], _ => exact pu_cap (evs1 h) ht
    | min =>
      match xs, hl with
      | [x, y], _ => exact pu_min (evs2 h).1 (evs2 h).2
    | max =>
      match xs, hl with
      | [x, y], _ => exact pu_max (evs2 h).1 (evs2 h).2
  | ia h h2 hi =>
    cases hi with
    | n ht hs hj => exact pu_indexAddr_n h h2 ht hs hj
    | a ht hs hj => exact pu_indexAddr_a h h2 ht hs hj
    | p ht hs h0 h1 => exact pu_indexAddr h h2 ht hs h0 h1
    | y ht hs h0 h1 => exact pu_indexAddr_y h h2 ht hs h0 h1
  | @sl t x lo hi v r a b h h2 h3 hs =>
    have ex : ∀ {o : Option Operand}, evo l o = some none → o = none := fun {o} ho => evo_none ho
    have ey : ∀ {o : Option Operand} {v : Value}, evo l o = some (some v) → ∃ x, o = some x ∧ ev l x = some v := fun {o v} ho => evo_some ho
    cases hs with
    | a ht hz hm =>
      obtain rfl := ex h2
      obtain rfl := ex h3
      exact pu_slice_a h ht hz hm
    | r ht hz =>
      obtain rfl := ex h2
      obtain rfl := ex h3
      exact pu_slice_arr h ht hz
    | h ht hz hp hj =>
      obtain rfl := ex h2
      obtain ⟨y, rfl, hy⟩ := ey h3
      exact pu_slice_hn h hy ht hz hp hj
    | l ht hz hp hj hm =>
      obtain ⟨y, rfl, hy⟩ := ey h2
      obtain rfl := ex h3
      exact pu_slice_ln h hy ht hz hp hj hm
    | g ht hz hp hq hj hm =>
      obtain ⟨y, rfl, hy⟩ := ey h2
      obtain ⟨z, rfl, hz'⟩ := ey h3
      exact pu_slice_lhn h hy hz' ht hz hp hq hj hm
theorem PuI.sep (h : PuI P L l op v) : Pu P (In L) n l op ty v := h.pu fun _ hW _ hf => hW.at hf
theorem PuI.all (h : PuI P L l op v) : Pu P (fun W => AllP W L) n l op ty v := h.pu fun _ hW _ hf => hW.at hf
end

/-! Code. -/
inductive CkC : Bool → Code → Code → Code → Prop
  | t {x y : Code} : CkC true x y x
  | f {x y : Code} : CkC false x y y
inductive BkI : Exit → Nat → Exit → Prop
  | n {id : Nat} : BkI .normal id .normal
  | h {id : Nat} : BkI (.exit id) id .normal
  | m {id id' : Nat} (h : Nat.beq id' id = false) : BkI (.exit id') id (.exit id')
  | r {id : Nat} : BkI .ret id .ret
  | p {id : Nat} {c : List PanicEntry} : BkI (.panic c) id (.panic c)
inductive PsI : Exit → Prop
  | x {id : Nat} : PsI (.exit id)
  | r : PsI .ret
  | p {c : List PanicEntry} : PsI (.panic c)
section
variable {P : Program} {Q : Exit → Act → World → Prop} {n : Nat} {l : Env} {L : List Fa}
theorem sc_cond {c : Operand} {x y z : Code} {b : Bool} (hc : ev l c = some (.bool b)) (hk : CkC b x y z) (h : SC P z Q n l L) : SC P (.cond c x y) Q n l L := by
  cases hk with
  | t => exact sc_if_t hc h
  | f => exact sc_if_f hc h
theorem se_blk {e e' : Exit} {id : Nat} (hb : BkI e id e') (h : SE Q e' n l L) : SE (Exit.inBlock id Q) e n l L := by
  cases hb with
  | n => exact se_block h
  | h => exact se_block_hit h
  | m hm => exact se_block_miss hm h
  | r => exact se_block_ret h
  | p => exact se_block_panic h
theorem se_pass {K : Act → World → Prop} {e : Exit} (hp : PsI e) (h : SE Q e n l L) : SE (Exit.then K Q) e n l L := by
  cases hp with
  | x => exact se_then_exit h
  | r => exact se_then_ret h
  | p => exact se_then_panic h
end
end Go.Proofs.YtocaabnbmcpjmaaGreatDoor
/- == on structs, field by field. No program is in sight. -/
namespace Go.Proofs.YtocaabnbmcpjmaaGreatDoor
open Go.RowKit
section
variable {P : Program} {w : World} {d off k : Nat} {xs ys : List Value} {f : Field} {fs : List Field} {r : Bool}
end

/-! A struct or an array stored into a part of a block; one cell of a symbolic block. -/
theorem setCells_mid {g : Nat} {t : TypeId} : ∀ (vs : List Value) (o : Nat) (w : World) (cur : List Value), Blk w g t cur.toArray → o + vs.length ≤ cur.length → Blk (w.setCells g o vs) g t (cur.take o ++ vs ++ cur.drop (o + vs.length)).toArray
  | [], o, w, cur, h, _ => by
    simpa [World.setCells] using h
  | v :: r, o, w, cur, h, ho => by
    rw [List.length_cons] at ho
    have h0 : Blk (w.setCell ⟨g, o, none⟩ v) g t (cur.set o v).toArray := by simpa using h.set_ o v
    have h1 := setCells_mid r (o + 1) _ (cur.set o v) h0 (by rw [List.length_set]; omega)
    have e : (cur.set o v).take (o + 1) ++ r ++ (cur.set o v).drop (o + 1 + r.length) = cur.take o ++ (v :: r) ++ cur.drop (o + (v :: r).length) := by
      rw [List.take_set, List.take_succ_eq_append_getElem (by omega), List.set_append_right _ _ (by simp; omega), List.drop_set_of_lt (by omega)]
      simp only [List.length_take, List.length_cons]
      rw [Nat.min_eq_left (by omega), Nat.sub_self]
      simp
      congr 1
      omega
    rw [e] at h1
    exact h1
theorem sl_store_mid {P : Program} {ops : Array Oper} {Q : Exit → Act → World → Prop} {n : Nat} {l : Env} {L L' : List Fa} {rest : List Oper} {t t' ty : TypeId} {pos : String} {after : Array Edge} {x y : Operand} {g o : Nat} {cs cl : List Value} (hx : ev l x = some (.pointer (some ⟨g, o, none⟩))) (hp : Pick (blk g t' cs) L L') (hy : ev l y = some (.agg cl.toArray)) (hi : szOf P t = some cl.length) (hc : o + cl.length ≤ cs.length) (h1 : ∀ v ∈ cl, v.oneCell' = true)
    (h : SL P ops Q rest n l (blk g t' (cs.take o ++ cl ++ cs.drop (o + cl.length)) :: L')) : SL P ops Q (⟨none, .store t x y, ty, pos, after, none⟩ :: rest) n l L := sl_of fun w hw => WL.mk fun a hs => by
  have h2 := hw.pick hp
  have hb : Blk w g t' cs.toArray := by
    have := h2.hd
    unfold blk at this
    exact this
  have hB := setCells_mid cl o w cs hb hc
  refine wpList_store_mid rfl t x y rfl g o cl.toArray (hs.ev hx) (hs.ev hy) (fun j hj => ⟨by rw [hb.cell, Array.getElem?_eq_getElem (by simp at hj ⊢; omega)]; rfl, hb.frozen _⟩) (by rw [← szOf_eq]; simpa using hi) (all_oneCell_toArray h1) ?_
  refine (h.to (h2.step (f := blk g t' cs) (setCells_fr _ _ _) (fun k _ e => by unfold blk; exact e) ?_ (fun k e => .inl (by unfold blk at e ⊢; exact e)))).get hs
  unfold blk
  simpa using hB
theorem SetAt.tail {a b : List Value} {i k : Nat} {v : Value} {r : List Value} (hk : a.length = k) (h : SetAt i v b r) : SetAt (k + i) v (a ++ b) (a ++ r) := by
  subst hk
  induction a with
  | nil => simpa using h
  | cons x a ih =>
    rw [List.length_cons, Nat.add_right_comm]
    exact SetAt.there ih
end Go.Proofs.YtocaabnbmcpjmaaGreatDoor
/- More steps over facts: stores into owned rows, several facts as one, entailments. No program is in sight. -/
namespace Go.Proofs.YtocaabnbmcpjmaaGreatDoor
open Go.RowKit

/-! One set of facts for another. -/
def Ent_ (L L' : List Fa) : Prop := ∀ w, Sep w L → Sep w L'
section
variable {L L' L1 K G : List Fa} {f g : Fa} {w : World}
theorem Ent_.sub (h : Sub L L') : Ent_ L L' := fun _ hw => hw.sub h
theorem Ent_.trans (h : Ent_ L L1) (h' : Ent_ L1 L') : Ent_ L L' := fun w hw => h' w (h w hw)
theorem star_out : Ent_ (star G :: K) (G ++ K) := fun w hw => by
  have h1 : Sep w G := by
    have := hw.hd
    unfold star at this
    exact this
  refine h1.app hw.tl (fun k hk hk' => ?_)
  obtain ⟨f, hf, hk'⟩ := hk'
  refine hw.apart f hf k ?_ hk'
  unfold star
  exact hk
theorem star_in : Ent_ (G ++ K) (star G :: K) := fun w hw => by
  have h1 : (star G).P w := by
    unfold star
    exact hw.app_l
  exact (sep_one h1).app hw.app_r (fun k hk hk' => by
    rcases foot_cons.1 hk with e | e
    · unfold star at e
      exact hw.app_apart k e hk'
    · exact foot_nil e)
theorem Ent_.tail {f : Fa} (h : Ent_ L L') (hf : ∀ k, foot L' k → foot L k) : Ent_ (f :: L) (f :: L') := fun w hw =>
  (sep_one hw.hd).app (h w hw.tl) (fun k hk hk' => by
    rcases foot_cons.1 hk with e | e
    · obtain ⟨y, hy, hky⟩ := hf k hk'
      exact hw.apart y hy k e hky
    · exact foot_nil e)
section
variable {P : Program} {ops : Array Oper} {Q : Exit → Act → World → Prop} {n : Nat} {l : Env} {rest : List Oper} {S : World → Prop} {need : Nat → Bool} {fuel : Nat} {listed : Array Bool}
theorem se_ent {e : Exit} (h : Ent_ L L') (hk : SE Q e n l L') : SE Q e n l L := by
  unfold SE at hk ⊢
  exact fun w hw => hk w (h w hw)
/-- A loop in its block, and what stands behind it. -/
theorem sc_bjoin {α : Type} {x y : Code} {id : Nat} (E : α → Env) (H : α → List Fa) (R : α → Prop) (hx : SC P x (Exit.inBlock id (Exit.then (fun a w => ∃ p : α, Sl n (E p) a ∧ R p ∧ Sep w (H p)) Q)) n l L) (hy : ∀ p, R p → SC P y Q n (E p) (H p)) : SC P x (Exit.inBlock id (Exit.then (fun a w => y.wp P Q a w) Q)) n l L := by
  unfold SC WC at hx hy ⊢
  intro w hw a hs
  have hm : ∀ e a w, Exit.then (fun a w => ∃ p : α, Sl n (E p) a ∧ R p ∧ Sep w (H p)) Q e a w → Exit.then (fun a w => y.wp P Q a w) Q e a w := by
    intro e a w h
    cases e
    · obtain ⟨p, h1, h2, h3⟩ := h
      exact hy p h2 w h3 a h1
    all_goals exact h
  refine Code.wp_mono (fun e a w h => ?_) (hx w hw a hs)
  cases e with
  | exit id' =>
    by_cases hc : id' = id
    · have h' : Exit.inBlock id (Exit.then (fun a w => ∃ p : α, Sl n (E p) a ∧ R p ∧ Sep w (H p)) Q) (.exit id') a w = Exit.then (fun a w => ∃ p : α, Sl n (E p) a ∧ R p ∧ Sep w (H p)) Q .normal a w := if_pos hc
      have h2 : Exit.inBlock id (Exit.then (fun a w => y.wp P Q a w) Q) (.exit id') a w = Exit.then (fun a w => y.wp P Q a w) Q .normal a w := if_pos hc
      rw [h2]
      rw [h'] at h
      exact hm _ _ _ h
    · have h' : Exit.inBlock id (Exit.then (fun a w => ∃ p : α, Sl n (E p) a ∧ R p ∧ Sep w (H p)) Q) (.exit id') a w = Exit.then (fun a w => ∃ p : α, Sl n (E p) a ∧ R p ∧ Sep w (H p)) Q (.exit id') a w := if_neg hc
      have h2 : Exit.inBlock id (Exit.then (fun a w => y.wp P Q a w) Q) (.exit id') a w = Exit.then (fun a w => y.wp P Q a w) Q (.exit id') a w := if_neg hc
      rw [h2]
      rw [h'] at h
      exact hm _ _ _ h
  | normal => exact hm .normal a w h
  | goto => exact hm (.goto _) a w h
  | ret => exact hm .ret a w h
  | panic => exact hm (.panic _) a w h
  | outgrown => exact hm .outgrown a w h
/-- Another way to say what is answered. -/
theorem Fn.say {f : FuncId} {args : Array Value} {α β : Type} {φ : α → Prop} {v : α → Value} {H : α → List Fa} {φ' : β → Prop} {v' : β → Value} {H' : β → List Fa} (h : Fn P f args L (Ret φ v H)) (he : ∀ x w, φ x → Sep w (H x) → ∃ y, φ' y ∧ v' y = v x ∧ Sep w (H' y)) : Fn P f args L (Ret φ' v' H') :=
  h.mono fun _ w' ⟨x, h1, h2, h3⟩ => by
    obtain ⟨y, e1, e2, e3⟩ := he x w' h1 h3
    exact ⟨y, e1, by rw [e2, h2], e3⟩
end
end

/-! Stores into owned rows. -/
section
variable {P : Program} {ops : Array Oper} {Q : Exit → Act → World → Prop} {n : Nat} {l : Env} {L L' : List Fa} {rest : List Oper} {ty t e : TypeId} {pos : String} {after : Array Edge} {x y : Operand} {g i c size k : Nat} {xs cl : List Value} {v : Value} {w : World}
theorem own_close {cur : Array Value} (hB : Blk w g e cur) (hkc : k ≤ c) (hcm : c ≤ maxLen) (hcs : cur.size = c * size) (htk : cur.toList.take (k * size) = xs) (hxl : xs.length = k * size) : w.ownsRow 0 e size (.slice (some ⟨g, 0, none⟩) k c) k xs :=
  ⟨hxl, .inr ⟨g, c, cur, rfl, Nat.zero_le _, hB, hkc, hcm, hcs, htk⟩⟩
theorem own_mk (h : w.ownsRow 0 e size (.slice (some ⟨g, 0, none⟩) k c) k xs) : (own e size (some ⟨g, 0, none⟩) k c xs).P w := by
  unfold own
  exact h
theorem own_F : (own e size (some ⟨g, 0, none⟩) k c xs).F = fun j => some g = some j := by
  unfold own
  rfl
end
section
variable {X : Type} {C : X → List Value} {sz : Nat}
end
/-! copy into a block. -/
section
variable {P : Program} {ops : Array Oper} {Q : Exit → Act → World → Prop} {n : Nat} {l : Env} {L L' : List Fa} {rest : List Oper} {d : Tmp} {dst : Option Tmp} {ty t t' t0 e : TypeId} {pos : String} {after : Array Edge} {x y : Operand} {g o dLen dCap sLen sCap size kk : Nat} {a : Addr} {cs cs0 : List Value}
end
section
variable {P : Program} {ops : Array Oper} {Q : Exit → Act → World → Prop} {n : Nat} {l : Env} {L : List Fa} {S : World → Prop} {need : Nat → Bool} {fuel : Nat} {listed : Array Bool} {e t' : TypeId} {size m c g : Nat} {A : Option Addr} {xs : List Value}
theorem results_cell1 {fn : Func} {p : Tmp} {ty : TypeId} (h : fn.results = #[.cell p ty]) (tmps : Array Value) (P : Program) (w : World) :
    (results fn tmps).run P w = ((asAddr (tmps.getD p undef)).run P w).andThen fun a w₁ => (loadVar ty a).run P w₁ := by
  simp only [results, h]
  simp [Sem.run_bind, Result.andThen]
/-- A result that is a variable in memory. -/
theorem se_ret_c {fn : Func} {α : Type} {φ : α → Prop} {vv : α → Value} {H : α → List Fa} {tp : Nat} {ty : TypeId} {td : TypeDesc} {csx : List Value} (x : α) (hφ : φ x) (hr : fn.results = #[.cell tp ty]) (hv : lk l tp = some (.pointer (some ⟨g, 0, none⟩))) (hb : At (blk g t' csx) L) (hu : P.underlying ty = some td) (hd' : (match td with | .struct _ | .array _ _ => true | _ => false) = true) (hi : szOf P ty = some csx.length)
    (he : vv x = .agg csx.toArray) (hs : Sub L (H x)) : SE (bodyPost P fn (Ret φ vv H)) .ret n l L := se_of fun w hw => WE.mk fun a hs' => by
  refine bodyPost_ret (v := vv x) ?_ hs'.df ⟨x, hφ, rfl, hw.sub hs⟩
  rw [results_cell1 hr, hs'.get hv, he]
  have hB : Blk w g t' csx.toArray := blk_at hw hb
  have hl := run_loadVar_at (P := P) w ⟨g, 0, none⟩ ty csx td (fun j v hj => by
    rw [add_none, Nat.zero_add, hB.cell]
    simpa using hj) hu hd' (by rw [← szOf_eq]; exact hi)
  simp [asAddr, hl]
end
section
variable {P : Program} {ops : Array Oper} {Q : Exit → Act → World → Prop} {n : Nat} {l : Env} {L L' : List Fa} {rest : List Oper} {ty t e : TypeId} {pos : String} {after : Array Edge} {x y : Operand} {g i c size k : Nat} {xs cl : List Value} {v : Value} {w : World} {p : Addr}
end
end Go.Proofs.YtocaabnbmcpjmaaGreatDoor
