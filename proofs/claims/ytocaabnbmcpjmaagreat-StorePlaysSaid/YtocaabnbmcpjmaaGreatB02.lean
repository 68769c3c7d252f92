/- Several texts of one claim, one behind the other. -/
import Derived.Test.YtocaabnbmcpjmaaGreatB01
import Derived.Deep.Quiet
import Derived.IntWalk
import Derived.Laws.BitsAllLaws
set_option linter.unusedVariables false
set_option linter.unusedSimpArgs false
namespace Go.Proofs.YtocaabnbmcpjmaaGreat
variable {φ ψ : Prop}
section
open Go.RowKit
section
theorem Fr.own {S : Nat → Prop} {w wa wb : World} (h : Fr Nil w wa) (h' : Fr S wa wb) (hs : ∀ k, S k → w.heap.size ≤ k) : Fr Nil w wb := h.trans h' (fun k hk e => by have := hs k e; omega)
theorem Reads.of_blk_mid {w : World} {g o n : Nat} {t : TypeId} {cs : Array Value} {xs : List Value} (h : Blk w g t cs) (hx : (cs.toList.drop o).take n = xs) (hn : xs.length = n) : Reads w 1 (some ⟨g, o, none⟩) n xs := by
 refine ⟨by simpa using hn, fun _ => ⟨_, rfl, fun j u hu => ?_⟩⟩
 rw [add_none, h.cell]
 rw [← hx, List.getElem?_take] at hu
 split at hu
 ·rw [List.getElem?_drop] at hu
  simpa using hu
 ·cases hu
def szOf (P : Program) (t : TypeId) : Option Nat := match P.info? t with
 | some { size := s, .. } => some s
 | none => none
theorem szOf_eq (P : Program) (t : TypeId) : szOf P t = (P.info? t).map (·.size) := by
 unfold szOf
 cases P.info? t <;> rfl
def zeroOf (P : Program) (t : TypeId) : Option Value := match P.info? t with
 | some { zero := some z, .. } => some z
 | _ => none
theorem zeroOf_spec {P : Program} {t : TypeId} {z : Value} (h : zeroOf P t = some z) : ∃ i, P.info? t = some i ∧ i.zero = some z := by
 unfold zeroOf at h
 split at h
 ·rename_i i s b hp al fa z' c m he
  simp at h
  subst h; exact ⟨_, he, rfl⟩
 ·cases h
def fieldOff : List Field → Nat → Option Nat
 | ⟨_, _, o, _, _, _, _⟩ :: _, 0 => some o
 | _ :: r, j + 1 => fieldOff r j
 | [], _ => none
theorem fieldOff_spec : ∀ {fs : List Field} {j o : Nat}, fieldOff fs j = some o → ∃ f, fs[j]? = some f ∧ f.offset = o
 | f :: _, 0, o, h => ⟨f, rfl, by simpa [fieldOff] using h⟩
 | _ :: r, j + 1, o, h => by
  obtain ⟨f, h1, h2⟩ := fieldOff_spec (fs := r) (j := j) (by simpa [fieldOff] using h)
  exact ⟨f, by simpa using h1, h2⟩
 | [], _, _, h => by simp [fieldOff] at h
def nth : List Value → Nat → Option Value
 | v :: _, 0 => some v
 | _ :: r, j + 1 => nth r j
 | [], _ => none
theorem nth_eq : ∀ (l : List Value) (j : Nat), nth l j = l[j]?
 | v :: _, 0 => rfl
 | _ :: r, j + 1 => by simpa [nth] using nth_eq r j
 | [], _ => by simp [nth]
def stOf (P : Program) (t : TypeId) : Bool := match P.underlying t with
 | some (.struct fs) => fs.all fun f => match P.info? f.type with
  | some i => i.size != 0
  | none => false
 | _ => false
abbrev Env := List (Nat × Value)
def lk : Env → Nat → Option Value
 | [], _ => none
 | (k, v) :: r, d => bif Nat.beq k d then some v else lk r d
def ev (l : Env) : Operand → Option Value
 | .tmp t => lk l t
 | .const v => some v
 | .global g => some (.pointer (some ⟨g, 0, none⟩))
 | .func f => some (.func (.func f) #[] #[])
structure Sl (n : Nat) (l : Env) (a : Act) : Prop where
 df : a.defers = []
 sz : a.tmps.size = n
 at_ : ∀ d v, lk l d = some v → a.tmps[d]? = some v
section
variable {n : Nat} {l : Env} {a : Act}
theorem Sl.get (h : Sl n l a) {d : Nat} {v : Value} (hd : lk l d = some v) : a.tmps.getD d undef = v := by
 rw [Array.getD_eq_getD_getElem?, h.at_ d v hd]
 rfl
theorem Sl.ev (h : Sl n l a) {x : Operand} {v : Value} (hx : ev l x = some v) : a.eval x = v := by
 cases x with
 | tmp t => exact h.get hx
 | const u => exact Option.some.inj hx
 | global g => exact Option.some.inj hx
 | func f => exact Option.some.inj hx
theorem lk_cons (k : Nat) (v : Value) (r : Env) (d : Nat) : lk ((k, v) :: r) d = if k = d then some v else lk r d := by
 by_cases h : k = d
 ·subst h
  simp [lk, Nat.beq_refl]
 ·have h2 : Nat.beq k d = false := by
   cases hb : Nat.beq k d with
   | true => exact absurd (Nat.eq_of_beq_eq_true hb) h
   | false => rfl
  simp [lk, h2, h]
theorem Sl.put (h : Sl n l a) {d : Nat} (hd : Nat.blt d n = true) (v : Value) : Sl n ((d, v) :: l) (a.put (some d) v) := by
 have hdn : d < n := by
  have h1 : d + 1 ≤ n := by simpa [Nat.blt] using hd
  omega
 refine ⟨h.df, by simp [Act.put, h.sz], fun k u hk => ?_⟩
 rw [lk_cons] at hk
 simp only [Act.put]
 by_cases hkd : d = k
 ·subst hkd
  simp at hk
  subst hk
  simp [h.sz, hdn]
 ·rw [if_neg hkd] at hk
  rw [Array.getElem?_setIfInBounds_ne hkd]; exact h.at_ k u hk
theorem Sl.sub (h : Sl n l a) {l' : Env} (hs : ∀ d v, lk l' d = some v → lk l d = some v) : Sl n l' a := ⟨h.df, h.sz, fun d v hd => h.at_ d v (hs d v hd)⟩
end
def Has (l : Env) : Env → Prop
 | [] => True
 | (d, v) :: r => lk l d = some v ∧ Has l r
theorem Has.sub {l : Env} : ∀ {l' : Env}, Has l l' → ∀ d v, lk l' d = some v → lk l d = some v
 | [], _, d, v, h => by cases h
 | (k, u) :: r, ⟨h1, h2⟩, d, v, h => by
  rw [lk_cons] at h
  by_cases hk : k = d
  ·subst hk
   simp at h
   subst h; exact h1
  ·rw [if_neg hk] at h
   exact h2.sub d v h
theorem has_nil {l : Env} : Has l [] := trivial
theorem has_cons {l r : Env} {d : Nat} {v : Value} (h1 : lk l d = some v) (h2 : Has l r) : Has l ((d, v) :: r) := ⟨h1, h2⟩
section
variable {P : Program} {ops : Array Oper} {Q : Exit → Act → World → Prop} {n : Nat} {l : Env} {w : World} {rest : List Oper}
def WL (P : Program) (ops : Array Oper) (Q : Exit → Act → World → Prop) (rest : List Oper) (n : Nat) (l : Env) (w : World) : Prop := ∀ a, Sl n l a → wpList P ops Q rest a w
def WC (P : Program) (c : Code) (Q : Exit → Act → World → Prop) (n : Nat) (l : Env) (w : World) : Prop := ∀ a, Sl n l a → c.wp P Q a w
def WE (Q : Exit → Act → World → Prop) (e : Exit) (n : Nat) (l : Env) (w : World) : Prop := ∀ a, Sl n l a → Q e a w
def WQ (P : Program) (ops : Array Oper) (C : World → Prop) (Q : Act → Prop) (rest : List Oper) (n : Nat) (l : Env) : Prop := ∀ a, Sl n l a → wpQuiet P ops C Q rest a
def Pu (P : Program) (C : World → Prop) (n : Nat) (l : Env) (op : Op) (ty : TypeId) (v : Value) : Prop :=
 ∀ (a : Act) (dst : Option Tmp) (pos : String) (after : Array Edge) (g : Option (Nat × Bool)) (W : World), Sl n l a → C W → (execOp a.eval ⟨dst, op, ty, pos, after, g⟩).run P W = .ok (.value v) W
def Ru (P : Program) (n : Nat) (l : Env) (op : Op) (ty : TypeId) (w : World) (v : Value) (w' : World) : Prop :=
 ∀ (a : Act) (dst : Option Tmp) (pos : String) (after : Array Edge) (g : Option (Nat × Bool)), Sl n l a → (execOp a.eval ⟨dst, op, ty, pos, after, g⟩).run P w = .ok (.value v) w'
def Rs (P : Program) (n : Nat) (l : Env) (op : Op) (ty : TypeId) (w w' : World) : Prop :=
 ∀ (a : Act) (dst : Option Tmp) (pos : String) (after : Array Edge) (g : Option (Nat × Bool)), Sl n l a → (execOp a.eval ⟨dst, op, ty, pos, after, g⟩).run P w = .ok .skip w'
theorem WL.mk {P : Program} {ops : Array Oper} {Q : Exit → Act → World → Prop} {rest : List Oper} {n : Nat} {l : Env} {w : World} (h : ∀ a, Sl n l a → wpList P ops Q rest a w) : WL P ops Q rest n l w := h
theorem WL.get {P : Program} {ops : Array Oper} {Q : Exit → Act → World → Prop} {rest : List Oper} {n : Nat} {l : Env} {w : World} (h : WL P ops Q rest n l w) {a : Act} (hs : Sl n l a) : wpList P ops Q rest a w := h a hs
theorem wc_enter {f : FuncId} {fn : Func} {c : Code} {args : Array Value} {R : Ending → World → Prop} (hf : P.funcs[f]? = some fn) (hb : fn.body = some c) (N : Nat) (hN : fn.ntmps = N) (ha : args.size ≤ N)
  (l : Env) (hl : ∀ d v, lk l d = some v → args[d]? = some v) (h : WC P c (bodyPost P fn R) N l w) : Calls P f args w R := by
 refine calls_of_wp hf hb (h _ ⟨rfl, by simp [hN]; omega, fun d v hd => ?_⟩)
 have h1 := hl d v hd
 have h2 : d < args.size := (Array.getElem?_eq_some_iff.1 h1).1
 rw [Array.getElem?_append_left h2]; exact h1
theorem args_of : ∀ {l : Env} {args : Array Value}, (∀ p ∈ l, args[p.1]? = some p.2) → ∀ d v, lk l d = some v → args[d]? = some v
 | [], _, _, d, v, h => by cases h
 | (k, u) :: r, args, ha, d, v, h => by
  rw [lk_cons] at h
  by_cases hk : k = d
  ·subst hk
   simp at h
   subst h; exact ha _ (List.mem_cons_self ..)
  ·rw [if_neg hk] at h
   exact args_of (fun p hp => ha p (List.mem_cons_of_mem _ hp)) d v h
theorem wc_seq {x y : Code} (h : WC P x (Exit.then (fun a w => y.wp P Q a w) Q) n l w) : WC P (.seq x y) Q n l w := fun a hs => wp_seq (h a hs)
theorem wc_skip (h : WE Q .normal n l w) : WC P .skip Q n l w := fun a hs => wp_skip (h a hs)
theorem wc_exit {id : Nat} (h : WE Q (.exit id) n l w) : WC P (.exit id) Q n l w := fun a hs => wp_exit (h a hs)
theorem wc_ret (h : WE Q .ret n l w) : WC P .ret Q n l w := fun a hs => wp_ret (h a hs)
theorem wc_block {id : Nat} {c : Code} (h : WC P c (Exit.inBlock id Q) n l w) : WC P (.block id c) Q n l w := fun a hs => wp_block (h a hs)
theorem wc_if_t {c : Operand} {x y : Code} (hc : ev l c = some (.bool true)) (h : WC P x Q n l w) : WC P (.cond c x y) Q n l w := fun a hs => wp_cond_true (hs.ev hc) (h a hs)
theorem wc_if_f {c : Operand} {x y : Code} (hc : ev l c = some (.bool false)) (h : WC P y Q n l w) : WC P (.cond c x y) Q n l w := fun a hs => wp_cond_false (hs.ev hc) (h a hs)
theorem wc_region {id : Nat} {o : List Oper} (h : WL P o.toArray Q o n l w) : WC P (.region id o.toArray false) Q n l w := fun a hs => wp_region_lit (h a hs)
theorem wc_for {α : Type} {c : Code} (L : α → Env) (R : α → World → Prop) (m : α → Nat) (k0 : α) (hL : Has l (L k0)) (h0 : R k0 w)
  (round : ∀ k w, R k w → WC P c (Exit.then (fun a' w' => ∃ k', Sl n (L k') a' ∧ R k' w' ∧ m k' < m k) Q) n (L k) w) : WC P (.loop c) Q n l w := by
 intro a hs b kk cs
 have key : ∀ j k w a, m k = j → R k w → Sl n (L k) a → ∃ e a' w', Q e a' w' ∧ Arrives P (lone (b.at a (.code c :: .inLoop c :: kk)) cs w) b kk cs e a' w' := by
  intro j
  induction j using Nat.strongRecOn with
  | _ j ih =>
   intro k w a hj hR hs
   obtain ⟨e, a₁, w₁, hq, harr⟩ := round k w hR a hs b (.inLoop c :: kk) cs
   cases e with
   | normal =>
    obtain ⟨k', hs', hR', hlt⟩ := hq
    obtain ⟨e₂, a₂, w₂, hq₂, harr₂⟩ := ih (m k') (hj ▸ hlt) k' w₁ a₁ rfl hR' hs'
    exact ⟨e₂, a₂, w₂, hq₂, .of_steps (Steps.trans harr (.one step_inLoop)) harr₂⟩
   | exit id => exact ⟨_, a₁, w₁, hq, .pass (x := .inLoop c) rfl (fun _ _ => .inl (by simp)) harr⟩
   | goto l => exact ⟨_, a₁, w₁, hq, .pass (x := .inLoop c) rfl (fun _ _ => .inl (by simp)) harr⟩
   | ret => exact ⟨_, a₁, w₁, hq, .pass (x := .inLoop c) rfl (fun _ _ => .inl (by simp)) harr⟩
   | panic ch => exact ⟨_, a₁, w₁, hq, .pass (x := .inLoop c) rfl (fun _ _ => .inl (by simp)) harr⟩
   | outgrown => exact ⟨_, a₁, w₁, hq, .pass (x := .inLoop c) rfl (fun _ _ => .inl (by simp)) harr⟩
 obtain ⟨e, a', w', hq, harr⟩ := key _ k0 w a rfl h0 (hs.sub hL.sub)
 exact ⟨e, a', w', hq, .of_steps (.one step_loop) harr⟩
end
section
variable {P : Program} {ops : Array Oper} {Q : Exit → Act → World → Prop} {n : Nat} {l : Env} {w w' : World} {rest : List Oper} {C : World → Prop} {q : Act → Prop}
 {d : Tmp} {op : Op} {ty : TypeId} {pos : String} {after : Array Edge} {g : Option (Nat × Bool)} {v : Value} {dst : Option Tmp}
theorem wl_nil (h : WE Q .normal n l w) : WL P ops Q [] n l w := fun a hs => h a hs
theorem wl_run (hr : Ru P n l op ty w v w') (hd : Nat.blt d n = true) (h : WL P ops Q rest n ((d, v) :: l) w') : WL P ops Q (⟨some d, op, ty, pos, after, none⟩ :: rest) n l w := fun a hs =>
 wpList_plain rfl fun K hK => by
  unfold Oper.wp
  rw [hr a _ _ _ _ hs]; exact hK _ _ (h _ (hs.put hd v))
theorem wl_pu (hr : Pu P (fun W => W = w) n l op ty v) (hd : Nat.blt d n = true) (h : WL P ops Q rest n ((d, v) :: l) w) : WL P ops Q (⟨some d, op, ty, pos, after, none⟩ :: rest) n l w :=
 wl_run (fun a _ _ _ _ hs => hr a _ _ _ _ w hs rfl) hd h
theorem wl_skip (hr : Rs P n l op ty w w') (h : WL P ops Q rest n l w') : WL P ops Q (⟨none, op, ty, pos, after, none⟩ :: rest) n l w := fun a hs =>
 wpList_plain rfl fun K hK => by
  unfold Oper.wp
  rw [hr a _ _ _ _ hs]; exact hK _ _ (h _ hs)
theorem Sl.yield {a : Act} (h : Sl n l a) {j t : Nat} {b : Bool} (hj : (ops[j]?).bind (·.dst) = some t) (ht : lk l t = some (.bool b)) : yielded ops a.tmps j = some b := by
 unfold yielded
 rw [hj]
 simp [h.at_ t _ ht]
theorem wl_yes {j t : Nat} {b : Bool} (hj : (ops[j]?).bind (·.dst) = some t) (ht : lk l t = some (.bool b)) (h : WL P ops Q (⟨dst, op, ty, pos, after, none⟩ :: rest) n l w) :
  WL P ops Q (⟨dst, op, ty, pos, after, some (j, b)⟩ :: rest) n l w := fun a hs => by
 have h1 := h a hs
 unfold wpList at h1 ⊢
 simp only [Region.wanted, hs.yield hj ht, if_true, beq_self_eq_true] at h1 ⊢
 exact h1
theorem wl_no {j t : Nat} {b : Bool} (hj : (ops[j]?).bind (·.dst) = some t) (ht : lk l t = some (.bool (!b))) (hd : Nat.blt d n = true) (h : WL P ops Q rest n ((d, undef) :: l) w) :
  WL P ops Q (⟨some d, op, ty, pos, after, some (j, b)⟩ :: rest) n l w := fun a hs => by
 unfold wpList
 have h2 : (some (!b) == some b) = false := by cases b <;> rfl
 simp only [Region.wanted, hs.yield hj ht, h2]
 exact h _ (hs.put hd undef)
theorem Sl.unyield {a : Act} (h : Sl n l a) {j t : Nat} (hj : (ops[j]?).bind (·.dst) = some t) (ht : lk l t = some undef) : yielded ops a.tmps j = none := by
 unfold yielded
 rw [hj]
 simp [h.at_ t _ ht, undef]
theorem wl_off {j t : Nat} {b : Bool} (hj : (ops[j]?).bind (·.dst) = some t) (ht : lk l t = some undef) (hd : Nat.blt d n = true) (h : WL P ops Q rest n ((d, undef) :: l) w) :
  WL P ops Q (⟨some d, op, ty, pos, after, some (j, b)⟩ :: rest) n l w := fun a hs => by
 unfold wpList
 have h2 : ((none : Option Bool) == some b) = false := rfl
 simp only [Region.wanted, hs.unyield hj ht, h2]
 exact h _ (hs.put hd undef)
theorem wq_off {j t : Nat} {b : Bool} (hj : (ops[j]?).bind (·.dst) = some t) (ht : lk l t = some undef) (hd : Nat.blt d n = true) (h : WQ P ops C q rest n ((d, undef) :: l)) :
  WQ P ops C q (⟨some d, op, ty, pos, after, some (j, b)⟩ :: rest) n l := fun a hs => by
 unfold wpQuiet
 have h2 : ((none : Option Bool) == some b) = false := rfl
 simp only [Region.wanted, hs.unyield hj ht, h2]
 exact h _ (hs.put hd undef)
theorem wc_sub {c : Code} (l' : Env) (hl : Has l l') (h : WC P c Q n l' w) : WC P c Q n l w := fun a hs => h a (hs.sub hl.sub)
theorem wc_quiet {id : Nat} {o : List Oper} (C : World → Prop) (hm : P.follows .mixedOrders = true) (hB : Region.lexB .any o.toArray = true) (hC : C w.drew)
  (h : WQ P o.toArray C (fun a => ∀ w', C w' → Q .normal a w') o n l) : WC P (.region id o.toArray true) Q n l w := fun a hs => wp_region_quiet (C := C) hm hB hC (by simpa using h a hs)
theorem wq_nil (h : ∀ a, Sl n l a → q a) : WQ P ops C q [] n l := fun a hs => h a hs
theorem wq_pu (hr : Pu P C n l op ty v) (hd : Nat.blt d n = true) (h : WQ P ops C q rest n ((d, v) :: l)) : WQ P ops C q (⟨some d, op, ty, pos, after, none⟩ :: rest) n l := fun a hs => by
 unfold wpQuiet
 simp only [Region.wanted, if_true]
 exact ⟨v, fun W hW => by unfold Oper.quietAt; rw [hr a _ _ _ _ W hs hW]; exact ⟨rfl, rfl⟩, h _ (hs.put hd v)⟩
theorem wq_yes {j t : Nat} {b : Bool} (hj : (ops[j]?).bind (·.dst) = some t) (ht : lk l t = some (.bool b)) (h : WQ P ops C q (⟨dst, op, ty, pos, after, none⟩ :: rest) n l) :
  WQ P ops C q (⟨dst, op, ty, pos, after, some (j, b)⟩ :: rest) n l := fun a hs => by
 have h1 := h a hs
 unfold wpQuiet at h1 ⊢
 simp only [Region.wanted, hs.yield hj ht, if_true, beq_self_eq_true] at h1 ⊢
 exact h1
theorem wq_no {j t : Nat} {b : Bool} (hj : (ops[j]?).bind (·.dst) = some t) (ht : lk l t = some (.bool (!b))) (hd : Nat.blt d n = true) (h : WQ P ops C q rest n ((d, undef) :: l)) :
  WQ P ops C q (⟨some d, op, ty, pos, after, some (j, b)⟩ :: rest) n l := fun a hs => by
 unfold wpQuiet
 have h2 : (some (!b) == some b) = false := by cases b <;> rfl
 simp only [Region.wanted, hs.yield hj ht, h2]
 exact h _ (hs.put hd undef)
theorem we_seq {c : Code} (h : WC P c Q n l w) : WE (Exit.then (fun a w => c.wp P Q a w) Q) .normal n l w := fun a hs => h a hs
theorem we_then_exit {K : Act → World → Prop} {id : Nat} (h : WE Q (.exit id) n l w) : WE (Exit.then K Q) (.exit id) n l w := fun a hs => h a hs
theorem we_then_ret {K : Act → World → Prop} (h : WE Q .ret n l w) : WE (Exit.then K Q) .ret n l w := fun a hs => h a hs
theorem we_block {id : Nat} (h : WE Q .normal n l w) : WE (Exit.inBlock id Q) .normal n l w := fun a hs => h a hs
theorem we_block_hit {id : Nat} (h : WE Q .normal n l w) : WE (Exit.inBlock id Q) (.exit id) n l w := fun a hs => by
 simp only [Exit.inBlock, if_true]
 exact h a hs
theorem we_block_miss {id id' : Nat} (hne : Nat.beq id' id = false) (h : WE Q (.exit id') n l w) : WE (Exit.inBlock id Q) (.exit id') n l w := fun a hs => by
 have h1 : ¬ id' = id := fun e => by subst e; simp [Nat.beq_refl] at hne
 simp only [Exit.inBlock, h1, if_false]
 exact h a hs
theorem we_block_ret {id : Nat} (h : WE Q .ret n l w) : WE (Exit.inBlock id Q) .ret n l w := fun a hs => h a hs
theorem wc_mid {α : Type} {x y : Code} (L : α → Env) (R : α → World → Prop) (hx : WC P x (Exit.then (fun a w => ∃ p : α, Sl n (L p) a ∧ R p w) Q) n l w) (hy : ∀ p w', R p w' → WC P y Q n (L p) w') : WC P (.seq x y) Q n l w := fun a hs =>
 wp_seq (Code.wp_mono (fun e a w h => by
   cases e
   · obtain ⟨p, h1, h2⟩ := h
     exact hy p w h2 a h1
   all_goals exact h) (hx a hs))
theorem wc_join {α : Type} {x y : Code} (L : α → Env) (R : α → World → Prop) (hx : WC P x (Exit.then (fun a w => ∃ p : α, Sl n (L p) a ∧ R p w) Q) n l w) (hy : ∀ p w', R p w' → WC P y Q n (L p) w') : WC P x (Exit.then (fun a w => y.wp P Q a w) Q) n l w := fun a hs =>
 Code.wp_mono (fun e a w h => by
   cases e
   · obtain ⟨p, h1, h2⟩ := h
     exact hy p w h2 a h1
   all_goals exact h) (hx a hs)
theorem we_mid {α : Type} {L : α → Env} {R : α → World → Prop} (p : α) (hL : Has l (L p)) (hR : R p w) : WE (Exit.then (fun a w => ∃ p : α, Sl n (L p) a ∧ R p w) Q) .normal n l w := fun a hs => ⟨p, hs.sub hL.sub, hR⟩
theorem we_round {α : Type} {L : α → Env} {R : α → World → Prop} {m : α → Nat} {k : α} (k' : α) (hL : Has l (L k')) (hR : R k' w) (hm : m k' < m k) :
  WE (Exit.then (fun a' w' => ∃ k', Sl n (L k') a' ∧ R k' w' ∧ m k' < m k) Q) .normal n l w := fun a hs => ⟨k', hs.sub hL.sub, hR, hm⟩
theorem we_ret1 {fn : Func} {R : Ending → World → Prop} {t : Nat} {v : Value} (hr : fn.results = #[.tmp t]) (hv : lk l t = some v) (h : R (.returned v) w) : WE (bodyPost P fn R) .ret n l w := fun a hs =>
 bodyPost_ret (results_tmp hr _ _ _) hs.df (by rw [hs.get hv]; exact h)
theorem we_ret2 {fn : Func} {R : Ending → World → Prop} {t u : Nat} {v x : Value} (hr : fn.results = #[.tmp t, .tmp u]) (hv : lk l t = some v) (hx : lk l u = some x) (h : R (.returned (.tuple #[v, x])) w) :
  WE (bodyPost P fn R) .ret n l w := fun a hs => bodyPost_ret (results_tmp2 hr _ _ _) hs.df (by rw [hs.get hv, hs.get hx]; exact h)
theorem we_ret0 {fn : Func} {R : Ending → World → Prop} (hr : fn.results = #[]) (h : R (.returned (.tuple #[])) w) : WE (bodyPost P fn R) .ret n l w := fun a hs =>
 bodyPost_ret (results_none hr _ _ _) hs.df h
theorem we_end0 {fn : Func} {R : Ending → World → Prop} (hr : fn.results = #[]) (h : R (.returned (.tuple #[])) w) : WE (bodyPost P fn R) .normal n l w := fun a hs =>
 bodyPost_end (results_none hr _ _ _) hs.df h
def evs (l : Env) : List Operand → Option (List Value)
 | [] => some []
 | x :: r => match ev l x, evs l r with
  | some v, some vs => some (v :: vs)
  | _, _ => none
theorem Sl.evs {a : Act} (h : Sl n l a) : ∀ {xs : List Operand} {vs : List Value}, evs l xs = some vs → xs.map a.eval = vs
 | [], vs, hv => by
  simp [Go.Proofs.YtocaabnbmcpjmaaGreat.evs] at hv
  subst hv
  rfl
 | x :: r, vs, hv => by
  rw [Go.Proofs.YtocaabnbmcpjmaaGreat.evs] at hv
  split at hv
  ·rename_i v vs' h1 h2
   simp at hv
   subst hv; rw [List.map_cons, h.ev h1, h.evs h2]
  ·cases hv
def evp (l : Env) : List (Nat × Operand) → Option (List (Nat × Value))
 | [] => some []
 | (i, x) :: r => match ev l x, evp l r with
  | some v, some vs => some ((i, v) :: vs)
  | _, _ => none
theorem Sl.evp {a : Act} (h : Sl n l a) : ∀ {xs : List (Nat × Operand)} {vs : List (Nat × Value)}, evp l xs = some vs → xs.map (fun (i, x) => (i, a.eval x)) = vs
 | [], vs, hv => by
  simp [Go.Proofs.YtocaabnbmcpjmaaGreat.evp] at hv
  subst hv
  rfl
 | (i, x) :: r, vs, hv => by
  rw [Go.Proofs.YtocaabnbmcpjmaaGreat.evp] at hv
  split at hv
  ·rename_i v vs' h1 h2
   simp at hv
   subst hv; rw [List.map_cons, h.evp h2]
   show (i, a.eval x) :: vs' = _
   rw [h.ev h1]
  ·cases hv
def callable (P : Program) (f : FuncId) : Bool := match P.funcs[f]? with
 | some fn => fn.body.isSome && fn.name != "runtime.NumGoroutine"
 | none => false
theorem run_call {a : Act} {f : FuncId} {cap : List Value} {x : Operand} {xs : List Operand} {vs : List Value} {ats : Array TypeId} (hs : Sl n l a) (hx : ev l x = some (.func (.func f) #[] cap.toArray)) (hv : evs l xs = some vs) (hf : callable P f = true) (W : World) :
  (execOp a.eval ⟨dst, .call { callee := .value x, args := xs.toArray, argTypes := ats }, ty, pos, after, g⟩).run P W = .ok (.enter f (vs ++ cap).toArray) W := by
 unfold callable at hf
 cases hfn : P.funcs[f]? with
 | none => rw [hfn] at hf; cases hf
 | some fn =>
  rw [hfn] at hf
  simp only [Bool.and_eq_true, bne_iff_ne] at hf
  obtain ⟨h1, h2⟩ := hf
  have hmap : xs.toArray.map a.eval = vs.toArray := by rw [List.map_toArray, hs.evs hv]
  simp [execOp, resolve, hs.ev hx, Deferred.ofValue, hmap, invoke, callFunc, hfn, h2, Option.isNone_iff_eq_none, Option.isSome_iff_ne_none.1 h1]
theorem run_ext {a : Act} {f : FuncId} {cap : List Value} {x : Operand} {xs : List Operand} {vs : List Value} {ats : Array TypeId} {v : Value} {W W' : World} (hs : Sl n l a) (hx : ev l x = some (.func (.func f) #[] cap.toArray)) (hv : evs l xs = some vs) (hr : (callFunc f (vs ++ cap).toArray).run P W = .ok (.value v) W') :
  (execOp a.eval ⟨dst, .call { callee := .value x, args := xs.toArray, argTypes := ats }, ty, pos, after, g⟩).run P W = .ok (.value v) W' := by
 have hmap : xs.toArray.map a.eval = vs.toArray := by rw [List.map_toArray, hs.evs hv]
 simp only [execOp, resolve, hs.ev hx, Deferred.ofValue, hmap, Sem.run_bind, Sem.run_pure, Result.andThen_ok, invoke]
 rw [← hr]
 congr 1
 simp
theorem pu_ext {f : FuncId} {cap : List Value} {x : Operand} {xs : List Operand} {vs : List Value} {ats : Array TypeId} (hx : ev l x = some (.func (.func f) #[] cap.toArray)) (hv : evs l xs = some vs) (hr : ∀ W, C W → (callFunc f (vs ++ cap).toArray).run P W = .ok (.value v) W) :
  Pu P C n l (.call { callee := .value x, args := xs.toArray, argTypes := ats }) ty v := fun _ _ _ _ _ W hs hW => run_ext hs hx hv (hr W hW)
theorem wl_call {f : FuncId} {cap : List Value} {x : Operand} {xs : List Operand} {vs : List Value} {ats : Array TypeId} {R : Ending → World → Prop} (hx : ev l x = some (.func (.func f) #[] cap.toArray)) (hv : evs l xs = some vs) (hf : callable P f = true) (hd : Nat.blt d n = true)
  (hc : Calls P f (vs ++ cap).toArray w R) (h : ∀ e w', R e w' → ∃ v, e = .returned v ∧ WL P ops Q rest n ((d, v) :: l) w') :
  WL P ops Q (⟨some d, .call { callee := .value x, args := xs.toArray, argTypes := ats }, ty, pos, after, none⟩ :: rest) n l w := fun a hs =>
 wpList_plain rfl fun K hK => by
  unfold Oper.wp
  rw [run_call hs hx hv hf w, Oper.upon_enter]; refine hc.mono fun e w' hR => ?_
  obtain ⟨v, rfl, h1⟩ := h e w' hR
  exact hK _ _ (h1 _ (hs.put hd v))
theorem wl_die {f : FuncId} {cap : List Value} {x : Operand} {xs : List Operand} {vs : List Value} {ats : Array TypeId} {R : Ending → World → Prop} (hx : ev l x = some (.func (.func f) #[] cap.toArray)) (hv : evs l xs = some vs) (hf : callable P f = true)
  (hc : Calls P f (vs ++ cap).toArray w R) (h : ∀ e w', R e w' → ∃ c, e = .panicked c ∧ WE Q (.panic c) n l w') :
  WL P ops Q (⟨dst, .call { callee := .value x, args := xs.toArray, argTypes := ats }, ty, pos, after, none⟩ :: rest) n l w := fun a hs =>
 wpList_plain rfl fun K hK => by
  unfold Oper.wp
  rw [run_call hs hx hv hf w, Oper.upon_enter]; refine hc.mono fun e w' hR => ?_
  obtain ⟨c, rfl, h1⟩ := h e w' hR
  exact h1 a hs
theorem we_then_panic {K : Act → World → Prop} {c : List PanicEntry} (h : WE Q (.panic c) n l w) : WE (Exit.then K Q) (.panic c) n l w := fun a hs => h a hs
theorem we_block_panic {id : Nat} {c : List PanicEntry} (h : WE Q (.panic c) n l w) : WE (Exit.inBlock id Q) (.panic c) n l w := fun a hs => h a hs
theorem we_panic {fn : Func} {R : Ending → World → Prop} {c : List PanicEntry} (h : R (.panicked c) w) : WE (bodyPost P fn R) (.panic c) n l w := fun a hs => ⟨hs.df, h⟩
theorem wq_call {f : FuncId} {cap : List Value} {x : Operand} {xs : List Operand} {vs : List Value} {ats : Array TypeId} (v : Value) (hx : ev l x = some (.func (.func f) #[] cap.toArray)) (hv : evs l xs = some vs) (hf : callable P f = true) (hd : Nat.blt d n = true)
  (hc : ∀ W, C W → Calls P f (vs ++ cap).toArray W (fun e W' => e = .returned v ∧ C W')) (h : WQ P ops C q rest n ((d, v) :: l)) :
  WQ P ops C q (⟨some d, .call { callee := .value x, args := xs.toArray, argTypes := ats }, ty, pos, after, none⟩ :: rest) n l := fun a hs => by
 unfold wpQuiet
 simp only [Region.wanted, if_true]
 exact ⟨v, fun W hW => by unfold Oper.quietAt; rw [run_call hs hx hv hf W]; exact ⟨rfl, hc W hW⟩, h _ (hs.put hd v)⟩
end
def sized (P : Program) (t : TypeId) : Bool := match P.info? t with
 | some i => i.size != 0
 | none => false
theorem sized_info {P : Program} {t : TypeId} (h : sized P t = true) : ∃ i, P.info? t = some i ∧ i.size ≠ 0 := by
 unfold sized at h
 cases hi : P.info? t with
 | none => rw [hi] at h; cases h
 | some i => exact ⟨i, rfl, by rw [hi] at h; simpa using h⟩
def plainT (P : Program) (t : TypeId) : Bool := (match P.underlying t with
 | some (.struct _) => false
 | some (.array _ _) => false
 | some _ => true
 | none => false) && (P.info? t).map (fun i => i.size) == some 1
theorem plainT_spec {P : Program} {t : TypeId} (h : plainT P t = true) : (∃ d, P.underlying t = some d ∧ ∀ W, (isAgg t).run P W = .ok false W) ∧ ∃ i, P.info? t = some i ∧ i.size = 1 := by
 unfold plainT at h
 rw [Bool.and_eq_true] at h
 obtain ⟨h1, h2⟩ := h
 constructor
 ·cases hu : P.underlying t with
  | none => rw [hu] at h1; cases h1
  | some d =>
   refine ⟨d, rfl, fun W => ?_⟩
   unfold isAgg
   rw [Sem.run_bind, run_underlying hu W]
   rw [hu] at h1
   cases d <;> simp_all
 ·cases hi : P.info? t with
  | none => rw [hi] at h2; simp at h2
  | some i => exact ⟨i, rfl, by rw [hi] at h2; simpa using h2⟩
section
variable {P : Program} {C : World → Prop} {n : Nat} {l : Env} {ty t t' : TypeId} {x y z : Operand} {v u : Value} {k k' : IntKind} {p q : Int} {A : Option Addr} {m c : Nat}
theorem pu_move (hx : ev l x = some v) : Pu P C n l (.move x) ty v := fun a _ _ _ _ W hs _ => by simp [execOp, hs.ev hx]
theorem pu_assign (hx : ev l x = some v) : Pu P C n l (.assign x) ty v := fun a _ _ _ _ W hs _ => by simp [execOp, hs.ev hx]
theorem pu_pick_t (hx : ev l x = some (.bool true)) (hy : ev l y = some v) : Pu P C n l (.pick x y z) ty v := fun a _ _ _ _ W hs _ => by simp [execOp, hs.ev hx, hs.ev hy, asBool]
theorem pu_pick_f (hx : ev l x = some (.bool false)) (hz : ev l z = some v) : Pu P C n l (.pick x y z) ty v := fun a _ _ _ _ W hs _ => by simp [execOp, hs.ev hx, hs.ev hz, asBool]
theorem pu_not {b : Bool} (hx : ev l x = some (.bool b)) : Pu P C n l (.unOp .not t x) ty (.bool (!b)) := fun a _ _ _ _ W hs _ => by simp only [execOp, hs.ev hx]; simp [go_sem]
theorem pu_not_t (hx : ev l x = some (.bool true)) : Pu P C n l (.unOp .not t x) ty (.bool false) := pu_not hx
theorem pu_not_f (hx : ev l x = some (.bool false)) : Pu P C n l (.unOp .not t x) ty (.bool true) := pu_not hx
theorem pu_neg (hx : ev l x = some (.int k p)) : Pu P C n l (.unOp .neg t x) ty (.int k (k.wrap (-p))) := fun a _ _ _ _ W hs _ => by simp only [execOp, hs.ev hx]; simp [go_sem]
section
variable (hx : ev l x = some (.int k p)) (hy : ev l y = some (.int k q))
include hx hy
theorem pu_add_w : Pu P C n l (.binOp .add t x y t') ty (.int k (k.wrap (p + q))) := fun a _ _ _ _ W hs _ => by simp only [execOp, hs.ev hx, hs.ev hy]; simp [go_sem, Op.intArith]
theorem pu_sub_w : Pu P C n l (.binOp .sub t x y t') ty (.int k (k.wrap (p - q))) := fun a _ _ _ _ W hs _ => by simp only [execOp, hs.ev hx, hs.ev hy]; simp [go_sem, Op.intArith]
theorem pu_mul_w : Pu P C n l (.binOp .mul t x y t') ty (.int k (k.wrap (p * q))) := fun a _ _ _ _ W hs _ => by simp only [execOp, hs.ev hx, hs.ev hy]; simp [go_sem, Op.intArith]
theorem pu_lss : Pu P C n l (.binOp .lss t x y t') ty (.bool (decide (p < q))) := fun a _ _ _ _ W hs _ => by simp [execOp, eqGuard_lss, hs.ev hx, hs.ev hy, binOp_lss]
theorem pu_leq : Pu P C n l (.binOp .leq t x y t') ty (.bool (decide (p ≤ q))) := fun a _ _ _ _ W hs _ => by simp [execOp, eqGuard_leq, hs.ev hx, hs.ev hy, binOp_leq]
theorem pu_gtr : Pu P C n l (.binOp .gtr t x y t') ty (.bool (decide (q < p))) := fun a _ _ _ _ W hs _ => by simp [execOp, eqGuard_gtr, hs.ev hx, hs.ev hy, binOp_gtr]
theorem pu_geq : Pu P C n l (.binOp .geq t x y t') ty (.bool (decide (q ≤ p))) := fun a _ _ _ _ W hs _ => by simp [execOp, eqGuard_geq, hs.ev hx, hs.ev hy, binOp_geq]
theorem pu_eql : Pu P C n l (.binOp .eql t x y t') ty (.bool (p == q)) := fun a _ _ _ _ W hs _ => by simp [execOp, hs.ev hx, hs.ev hy, binOp_eql, eqGuard_at_int]
theorem pu_neq : Pu P C n l (.binOp .neq t x y t') ty (.bool (p != q)) := fun a _ _ _ _ W hs _ => by simp [execOp, hs.ev hx, hs.ev hy, binOp_neq, eqGuard_at_int]
theorem pu_lss_t (h : p < q) : Pu P C n l (.binOp .lss t x y t') ty (.bool true) := by rw [show true = decide (p < q) from by simp [h]]; exact pu_lss hx hy
theorem pu_lss_f (h : q ≤ p) : Pu P C n l (.binOp .lss t x y t') ty (.bool false) := by rw [show false = decide (p < q) from by simp; omega]; exact pu_lss hx hy
theorem pu_leq_t (h : p ≤ q) : Pu P C n l (.binOp .leq t x y t') ty (.bool true) := by rw [show true = decide (p ≤ q) from by simp [h]]; exact pu_leq hx hy
theorem pu_leq_f (h : q < p) : Pu P C n l (.binOp .leq t x y t') ty (.bool false) := by rw [show false = decide (p ≤ q) from by simp; omega]; exact pu_leq hx hy
theorem pu_gtr_t (h : q < p) : Pu P C n l (.binOp .gtr t x y t') ty (.bool true) := by rw [show true = decide (q < p) from by simp [h]]; exact pu_gtr hx hy
theorem pu_gtr_f (h : p ≤ q) : Pu P C n l (.binOp .gtr t x y t') ty (.bool false) := by rw [show false = decide (q < p) from by simp; omega]; exact pu_gtr hx hy
theorem pu_geq_t (h : q ≤ p) : Pu P C n l (.binOp .geq t x y t') ty (.bool true) := by rw [show true = decide (q ≤ p) from by simp [h]]; exact pu_geq hx hy
theorem pu_geq_f (h : p < q) : Pu P C n l (.binOp .geq t x y t') ty (.bool false) := by rw [show false = decide (q ≤ p) from by simp; omega]; exact pu_geq hx hy
theorem pu_eql_t (h : p = q) : Pu P C n l (.binOp .eql t x y t') ty (.bool true) := by rw [show true = (p == q) from by simp [h]]; exact pu_eql hx hy
theorem pu_eql_f (h : p ≠ q) : Pu P C n l (.binOp .eql t x y t') ty (.bool false) := by rw [show false = (p == q) from by simp [h]]; exact pu_eql hx hy
theorem pu_neq_t (h : p ≠ q) : Pu P C n l (.binOp .neq t x y t') ty (.bool true) := by rw [show true = (p != q) from by simp [h]]; exact pu_neq hx hy
theorem pu_neq_f (h : p = q) : Pu P C n l (.binOp .neq t x y t') ty (.bool false) := by rw [show false = (p != q) from by simp [h]]; exact pu_neq hx hy
end
theorem pu_or (hx : ev l x = some (.int k p)) (hy : ev l y = some (.int k q)) : Pu P C n l (.binOp .or t x y t') ty (.int k (bits .or k p q)) := fun a _ _ _ _ W hs _ => by simp only [execOp, hs.ev hx, hs.ev hy]; simp [go_sem]
theorem pu_and (hx : ev l x = some (.int k p)) (hy : ev l y = some (.int k q)) : Pu P C n l (.binOp .and t x y t') ty (.int k (bits .and k p q)) := fun a _ _ _ _ W hs _ => by simp only [execOp, hs.ev hx, hs.ev hy]; simp [go_sem]
theorem pu_xor (hx : ev l x = some (.int k p)) (hy : ev l y = some (.int k q)) : Pu P C n l (.binOp .xor t x y t') ty (.int k (bits .xor k p q)) := fun a _ _ _ _ W hs _ => by simp only [execOp, hs.ev hx, hs.ev hy]; simp [go_sem]
theorem pu_shl (hx : ev l x = some (.int k p)) (hy : ev l y = some (.int k' q)) (h0 : 0 ≤ q) (h1 : q ≤ k.bits) : Pu P C n l (.binOp .shl t x y t') ty (.int k (k.wrap (p * 2 ^ q.toNat))) := fun a _ _ _ _ W hs _ => by
 simp only [execOp, hs.ev hx, hs.ev hy, eqGuard_shl, binOp_shl, shift_shl k k' p q h0 h1]
 rfl
theorem pu_rem_0 (hx : ev l x = some (.int k p)) (hy : ev l y = some (.int k q)) (hp : 0 ≤ p) (hq : 0 < q) : Pu P C n l (.binOp .rem t x y t') ty (.int k (p % q)) := fun a _ _ _ _ W hs _ => by
 have h0 : ¬ q = 0 := by omega
 have h1 : p.tmod q = p % q := Int.tmod_eq_emod_of_nonneg hp
 simp only [execOp, hs.ev hx, hs.ev hy]; simp [go_sem, Op.intDiv, h0, h1]
theorem pu_quo_0 (hx : ev l x = some (.int k p)) (hy : ev l y = some (.int k q)) (hp : 0 ≤ p) (hq : 0 < q) : Pu P C n l (.binOp .quo t x y t') ty (.int k (k.wrap (p / q))) := fun a _ _ _ _ W hs _ => by
 have h0 : ¬ q = 0 := by omega
 have h1 : p.tdiv q = p / q := Int.tdiv_eq_ediv_of_nonneg hp
 simp only [execOp, hs.ev hx, hs.ev hy]; simp [go_sem, Op.intDiv, h0, h1]
theorem pu_bool_neq {b b' : Bool} (ht : P.underlying t = some .bool) (hx : ev l x = some (.bool b)) (hy : ev l y = some (.bool b')) : Pu P C n l (.binOp .neq t x y t') ty (.bool (b != b')) := fun a _ _ _ _ W hs _ => by
 simp only [execOp, hs.ev hx, hs.ev hy]; simp [go_sem, ht]
 cases b <;> cases b' <;> rfl
theorem pu_bool_eql {b b' : Bool} (ht : P.underlying t = some .bool) (hx : ev l x = some (.bool b)) (hy : ev l y = some (.bool b')) : Pu P C n l (.binOp .eql t x y t') ty (.bool (b == b')) := fun a _ _ _ _ W hs _ => by
 simp only [execOp, hs.ev hx, hs.ev hy]; simp [go_sem, ht]
theorem pu_len {e : TypeId} (hx : ev l x = some (.slice A m c)) (ht : P.underlying t = some (.slice e)) : Pu P C n l (.call { callee := .builtin .len, args := #[x], argTypes := #[t] }) ty (.int .i64 m) := fun a _ _ _ _ W hs _ => by
 simp only [execOp, resolve, List.map_toArray, List.map_cons, List.map_nil, hs.ev hx]; simp [invoke, builtin, Builtin.len_, run_underlying ht]; rfl
theorem pu_len_str {s : ByteArray} (hx : ev l x = some (.string s)) (ht : P.underlying t = some .string) : Pu P C n l (.call { callee := .builtin .len, args := #[x], argTypes := #[t] }) ty (.int .i64 s.size) := fun a _ _ _ _ W hs _ => by
 simp only [execOp, resolve, List.map_toArray, List.map_cons, List.map_nil, hs.ev hx]; simp [invoke, builtin, run_len_string W t ty s ht]; rfl
theorem pu_extract {vs : List Value} {i : Nat} (hx : ev l x = some (.tuple vs.toArray)) (hi0 : nth vs i = some v) : Pu P C n l (.extract x i) ty v := fun a _ _ _ _ W hs _ => by
 have hi : vs[i]? = some v := by rw [← nth_eq]; exact hi0
 simp only [execOp, hs.ev hx]; simp [Instr.extract, hi]
theorem stOf_spec {fs : Array Field} (hz : stOf P t = true) (ht : P.underlying t = some (.struct fs)) {j : Nat} {f : Field} (hf : fs[j]? = some f) : sized P f.type = true := by
 unfold stOf at hz
 rw [ht] at hz
 simp only [Array.all_eq_true] at hz
 obtain ⟨hj, rfl⟩ := Array.getElem?_eq_some_iff.1 hf
 exact hz j hj
theorem pu_fieldAddr {ad : Addr} {i : Nat} {fs : List Field} {o : Nat} (hx : ev l x = some (.pointer (some ad))) (ht : P.underlying t = some (.struct fs.toArray)) (hf0 : fieldOff fs i = some o) (hz0 : stOf P t = true) : Pu P C n l (.fieldAddr t x i) ty (.pointer (some (ad.add o))) := fun a _ _ _ _ W hs _ => by
 obtain ⟨f, hf1, ho⟩ := fieldOff_spec hf0
 have hf : fs.toArray[i]? = some f := by simpa using hf1
 obtain ⟨i, hi, h0⟩ := sized_info (stOf_spec hz0 ht hf)
 simp only [execOp, hs.ev hx]
 simp [Instr.fieldAt, Instr.sureAddr, run_underlying ht, hf1, ho, fieldPlace, sizeOf, typeInfo, hi, h0]
end
section
variable {P : Program} {C : World → Prop} {n : Nat} {l : Env} {ty t t' : TypeId} {x y z : Operand} {v u : Value} {k k' : IntKind} {p q : Int} {A : Option Addr} {m c : Nat} {ad : Addr}
theorem pu_indexAddr {e : TypeId} {sz : Nat} (hx : ev l x = some (.slice (some ad) m c)) (hy : ev l y = some (.int k p)) (ht : P.underlying t = some (.slice e)) (he : szOf P e = some sz) (h0 : 0 ≤ p) (h1 : p < m) :
  Pu P C n l (.indexAddr t x y) ty (.pointer (some (ad.add (p.toNat * sz)))) := fun a _ _ _ _ W hs _ => by
 rw [szOf_eq] at he
 cases hi : P.info? e with
 | none => rw [hi] at he; simp at he
 | some i =>
  have hsz : i.size = sz := by rw [hi] at he; simpa using he
  simp only [execOp, hs.ev hx, hs.ev hy]
  simp [Instr.indexAt, run_underlying ht, asIntOf, h0, h1, sizeOf, typeInfo, hi, hsz]
theorem pu_indexAddr_n {e : TypeId} {sz j : Nat} (hx : ev l x = some (.slice (some ad) m c)) (hy : ev l y = some (.int k (j : Int))) (ht : P.underlying t = some (.slice e)) (he : szOf P e = some sz) (h1 : j < m) :
  Pu P C n l (.indexAddr t x y) ty (.pointer (some (ad.add (j * sz)))) := by
 have := pu_indexAddr (C := C) (n := n) (ty := ty) hx hy ht he (by omega) (by omega)
 simpa using this
theorem pu_indexAddr_a {e : TypeId} {N sz j g o : Nat} (hx : ev l x = some (.pointer (some ⟨g, o, none⟩))) (hy : ev l y = some (.int k (j : Int))) (ht : P.underlying t = some (.array N e)) (he : szOf P e = some sz) (h1 : j < N) :
  Pu P C n l (.indexAddr t x y) ty (.pointer (some ⟨g, o + j * sz, none⟩)) := fun a _ _ _ _ W hs _ => by
 have h3 : P.elem t = e := by simp [Program.elem, ht]
 have h2 : P.arrayLen t = N := by simp [Program.arrayLen, ht]
 have ht' : P.underlying t = some (.array (P.arrayLen t) (P.elem t)) := by rw [h3, h2]; exact ht
 have hsz : (sizeOf e).run P W = .ok sz W := by
  rw [szOf_eq] at he
  cases hi : P.info? e with
  | none => rw [hi] at he; simp at he
  | some i =>
   have hsz : i.size = sz := by rw [hi] at he; simpa using he
   simp [sizeOf, typeInfo, hi, hsz]
 simp only [execOp, hs.ev hx, hs.ev hy]
 rw [Sem.run_bind, run_indexAt_array (P := P) W t ⟨g, o, none⟩ k (j : Int) ht', h2, h3, if_pos ⟨by omega, by omega⟩, hsz]
 simp [add_none]
theorem pu_load (hx : ev l x = some (.pointer (some ad))) (ht : plainT P t = true) (hc : ∀ W, C W → W.cell? ad = some v) : Pu P C n l (.load t x) ty v := fun a _ _ _ _ W hs hC => by
 obtain ⟨⟨d, hu, hagg⟩, _⟩ := plainT_spec ht
 simp only [execOp, hs.ev hx]
 simp [Instr.loadAt, Instr.sureAddr, loadVar, hagg, load, Sem.run, hc W hC]
theorem pu_load_agg {cs : List Value} {d : TypeDesc} (hx : ev l x = some (.pointer (some ad))) (hu : P.underlying t = some d) (hd : (match d with | .struct _ | .array _ _ => true | _ => false) = true) (hi : szOf P t = some cs.length)
  (hc : ∀ W, C W → ∀ j v, cs[j]? = some v → W.cell? (ad.add j) = some v) : Pu P C n l (.load t x) ty (.agg cs.toArray) := fun a _ _ _ _ W hs hC => by
 simp only [execOp, hs.ev hx]
 simp [Instr.loadAt, Instr.sureAddr, run_loadVar_at W ad t cs d (hc W hC) hu hd (by rw [← szOf_eq]; exact hi)]
theorem pu_conv (hx : ev l x = some (.int k p)) (hs' : (P.underlying t).isSome = true) (hd : P.underlying t' = some (.int k')) : Pu P C n l (.convert t t' x) ty (.int k' (k'.wrap p)) := fun a _ _ _ _ W hs _ => by
 have hk : P.intKind t' = k' := by simp [Program.intKind, hd]
 simp only [execOp, hs.ev hx]
 rw [Sem.run_bind, run_convert_int (P := P) W t t' k p hs' (by rw [hk]; exact hd), hk]
 rfl
theorem elem_of {e : TypeId} (ht : P.underlying t = some (.slice e)) : P.elem t = e := by simp [Program.elem, ht]
theorem run_size {e : TypeId} {sz : Nat} (he : szOf P e = some sz) (W : World) : (sizeOf e).run P W = .ok sz W := by
 rw [szOf_eq] at he
 cases hi : P.info? e with
 | none => rw [hi] at he; simp at he
 | some i =>
  have hsz : i.size = sz := by rw [hi] at he; simpa using he
  simp [sizeOf, typeInfo, hi, hsz]
def cutA (A : Option Addr) (c i sz : Nat) : Option Addr := if c = i then A else A.map (·.add (i * sz))
theorem pu_slice_h {e : TypeId} {sz : Nat} (hx : ev l x = some (.slice A m c)) (hy : ev l y = some (.int k p)) (ht : P.underlying t = some (.slice e)) (he : szOf P e = some sz) (h0 : 0 ≤ p) (h1 : p ≤ c) :
  Pu P C n l (.slice t x none (some y) none) ty (.slice A p.toNat c) := fun a _ _ _ _ W hs _ => by
 have ht' : P.underlying t = some (.slice (P.elem t)) := by rw [elem_of ht]; exact ht
 simp only [execOp, Option.map, hs.ev hx, hs.ev hy]
 rw [Sem.run_bind, run_sliceAt_slice (P := P) W t _ _ _ _ ht', run_slice_h (P := P) W t A m c ht' k p h0 h1, elem_of ht, run_size he]
 have hA : A.map (fun ad => ad.add 0) = A := by cases A <;> simp [Addr.add]
 by_cases hc0 : c = 0 <;> simp [sliced, hA, hc0]
theorem pu_slice_l {e : TypeId} {sz : Nat} (hx : ev l x = some (.slice A m c)) (hy : ev l y = some (.int k p)) (ht : P.underlying t = some (.slice e)) (he : szOf P e = some sz) (h0 : 0 ≤ p) (h1 : p ≤ m) (h2 : m ≤ c) :
  Pu P C n l (.slice t x (some y) none none) ty (.slice (cutA A c p.toNat sz) (m - p.toNat) (c - p.toNat)) := fun a _ _ _ _ W hs _ => by
 have ht' : P.underlying t = some (.slice (P.elem t)) := by rw [elem_of ht]; exact ht
 simp only [execOp, Option.map, hs.ev hx, hs.ev hy]
 rw [Sem.run_bind, run_sliceAt_slice (P := P) W t _ _ _ _ ht', run_slice_l (P := P) W t A m c ht' k p h0 h1, elem_of ht, run_size he]
 rfl
theorem pu_slice_lh {e : TypeId} {sz : Nat} (hx : ev l x = some (.slice A m c)) (hy : ev l y = some (.int k p)) (hz : ev l z = some (.int k' q)) (ht : P.underlying t = some (.slice e)) (he : szOf P e = some sz) (h0 : 0 ≤ p) (h1 : p ≤ q) (h2 : q ≤ c) :
  Pu P C n l (.slice t x (some y) (some z) none) ty (.slice (cutA A c p.toNat sz) (q.toNat - p.toNat) (c - p.toNat)) := fun a _ _ _ _ W hs _ => by
 have ht' : P.underlying t = some (.slice (P.elem t)) := by rw [elem_of ht]; exact ht
 simp only [execOp, Option.map, hs.ev hx, hs.ev hy, hs.ev hz]
 rw [Sem.run_bind, run_sliceAt_slice (P := P) W t _ _ _ _ ht', run_slice_lh (P := P) W t A m c ht' k k' p q h0 h1 h2, elem_of ht, run_size he]
 rfl
theorem pu_slice_a {e : TypeId} {sz : Nat} (hx : ev l x = some (.slice A m c)) (ht : P.underlying t = some (.slice e)) (he : szOf P e = some sz) (h2 : m ≤ c) :
  Pu P C n l (.slice t x none none none) ty (.slice A m c) := fun a _ _ _ _ W hs _ => by
 have ht' : P.underlying t = some (.slice (P.elem t)) := by rw [elem_of ht]; exact ht
 simp only [execOp, Option.map, hs.ev hx]
 rw [Sem.run_bind, run_sliceAt_slice (P := P) W t _ _ _ _ ht', run_slice_all (P := P) W t A m c ht', elem_of ht, run_size he]
 have hA : A.map (fun ad => ad.add 0) = A := by cases A <;> simp [Addr.add]
 by_cases hc0 : c = 0 <;> simp [sliced, hA, hc0]
theorem pu_slice_hn {e : TypeId} {sz j : Nat} (hx : ev l x = some (.slice A m c)) (hy : ev l y = some (.int k p)) (ht : P.underlying t = some (.slice e)) (he : szOf P e = some sz) (hp : p = (j : Int)) (h1 : j ≤ c) :
  Pu P C n l (.slice t x none (some y) none) ty (.slice A j c) := by
 subst hp
 have h := pu_slice_h (C := C) (n := n) (ty := ty) hx hy ht he (by omega) (by omega)
 simpa using h
theorem pu_slice_ln {e : TypeId} {sz j : Nat} (hx : ev l x = some (.slice A m c)) (hy : ev l y = some (.int k p)) (ht : P.underlying t = some (.slice e)) (he : szOf P e = some sz) (hp : p = (j : Int)) (h1 : j ≤ m) (h2 : m ≤ c) :
  Pu P C n l (.slice t x (some y) none none) ty (.slice (cutA A c j sz) (m - j) (c - j)) := by
 subst hp
 have h := pu_slice_l (C := C) (n := n) (ty := ty) hx hy ht he (by omega) (by omega) h2
 simpa using h
theorem pu_slice_lhn {e : TypeId} {sz i j : Nat} (hx : ev l x = some (.slice A m c)) (hy : ev l y = some (.int k p)) (hz : ev l z = some (.int k' q)) (ht : P.underlying t = some (.slice e)) (he : szOf P e = some sz) (hp : p = (i : Int)) (hq : q = (j : Int)) (h1 : i ≤ j) (h2 : j ≤ c) :
  Pu P C n l (.slice t x (some y) (some z) none) ty (.slice (cutA A c i sz) (j - i) (c - i)) := by
 subst hp hq
 have h := pu_slice_lh (C := C) (n := n) (ty := ty) hx hy hz ht he (by omega) (by omega) (by omega)
 simpa using h
theorem pu_slice_arr {e : TypeId} {N sz : Nat} {ad : Addr} (hx : ev l x = some (.pointer (some ad))) (ht : P.underlying t = some (.array N e)) (he : szOf P e = some sz) : Pu P C n l (.slice t x none none none) ty (.slice (some ad) N N) := fun a _ _ _ _ W hs _ => by
 have h1 : P.elem t = e := by simp [Program.elem, ht]
 have h2 : P.arrayLen t = N := by simp [Program.arrayLen, ht]
 have ht' : P.underlying t = some (.array (P.arrayLen t) (P.elem t)) := by rw [h1, h2]; exact ht
 simp only [execOp, Option.map, hs.ev hx]
 rw [Sem.run_bind, run_sliceAt_array_all (P := P) W t ad ht', h1, h2, run_size he]
 by_cases hN : N = 0 <;> simp [slicedAt, hN, Addr.add]
theorem pu_build {parts : List (Nat × Operand)} {ps : List (Nat × Value)} (hp : evp l parts = some ps) (hrun : ∀ W, (Instr.build t ps.toArray).run P W = .ok v W) : Pu P C n l (.build t parts.toArray) ty v := fun a _ _ _ _ W hs _ => by
 have hmap : parts.toArray.map (fun (i, x) => (i, a.eval x)) = ps.toArray := by rw [List.map_toArray, hs.evp hp]
 simp only [execOp, hmap]
 rw [Sem.run_bind, hrun W]
 rfl
theorem pu_min (hx : ev l x = some (.int k p)) (hy : ev l y = some (.int k' q)) : Pu P C n l (.call { callee := .builtin .min, args := #[x, y], argTypes := #[t, t'] }) ty (.int k (if q < p then q else p)) := fun a _ _ _ _ W hs _ => by
 simp only [execOp, resolve, List.map_toArray, List.map_cons, List.map_nil, hs.ev hx, hs.ev hy]; simp [invoke, builtin, Builtin.min_, Builtin.min2]
theorem pu_max (hx : ev l x = some (.int k p)) (hy : ev l y = some (.int k' q)) : Pu P C n l (.call { callee := .builtin .max, args := #[x, y], argTypes := #[t, t'] }) ty (.int k (if p < q then q else p)) := fun a _ _ _ _ W hs _ => by
 simp only [execOp, resolve, List.map_toArray, List.map_cons, List.map_nil, hs.ev hx, hs.ev hy]; simp [invoke, builtin, Builtin.max_, Builtin.max2]
theorem pu_makeFunc {f : FuncId} {xs : List Operand} {vs : List Value} (hv : evs l xs = some vs) : Pu P C n l (.makeFunc (.func f) #[] xs.toArray) ty (.func (.func f) #[] vs.toArray) := fun a _ _ _ _ W hs _ => by
 have hmap : xs.toArray.map a.eval = vs.toArray := by rw [List.map_toArray, hs.evs hv]
 simp only [execOp, hmap]
 simp [Instr.makeFunc]
theorem pu_str {e : TypeId} {bs : List Int} (hx : ev l x = some (.slice A m c)) (ht : P.underlying t = some (.slice e)) (he : P.underlying e = some (.int .u8)) (hd : P.underlying t' = some .string) (hr : ∀ W, C W → Reads W 1 A m (bs.map (Value.int .u8))) :
  Pu P C n l (.convert t t' x) ty (.string (strOfNums bs)) := fun a _ _ _ _ W hs hC => by
 simp only [execOp, hs.ev hx]
 rw [Sem.run_bind, run_str W t t' e ht he hd A m c bs (hr W hC)]
 rfl
section
variable (hx : ev l x = some (.int .i64 p)) (hy : ev l y = some (.int .i64 q))
include hx hy
theorem pu_add_i (h : -9223372036854775808 ≤ p + q ∧ p + q ≤ 9223372036854775807) : Pu P C n l (.binOp .add t x y t') ty (.int .i64 (p + q)) := by
 have h1 := pu_add_w (P := P) (C := C) (n := n) (ty := ty) (t := t) (t' := t') hx hy
 rwa [IntWalk.i64_in _ h] at h1
theorem pu_sub_i (h : -9223372036854775808 ≤ p - q ∧ p - q ≤ 9223372036854775807) : Pu P C n l (.binOp .sub t x y t') ty (.int .i64 (p - q)) := by
 have h1 := pu_sub_w (P := P) (C := C) (n := n) (ty := ty) (t := t) (t' := t') hx hy
 rwa [IntWalk.i64_in _ h] at h1
theorem pu_mul_i (h : -9223372036854775808 ≤ p * q ∧ p * q ≤ 9223372036854775807) : Pu P C n l (.binOp .mul t x y t') ty (.int .i64 (p * q)) := by
 have h1 := pu_mul_w (P := P) (C := C) (n := n) (ty := ty) (t := t) (t' := t') hx hy
 rwa [IntWalk.i64_in _ h] at h1
end
theorem pu_conv_i (hx : ev l x = some (.int k p)) (hs' : (P.underlying t).isSome = true) (hd : P.underlying t' = some (.int .i64)) (h : -9223372036854775808 ≤ p ∧ p ≤ 9223372036854775807) : Pu P C n l (.convert t t' x) ty (.int .i64 p) := by
 have h1 := pu_conv (C := C) (n := n) (ty := ty) hx hs' hd
 rwa [IntWalk.i64_in _ h] at h1
theorem pu_conv_u (hx : ev l x = some (.int k p)) (hs' : (P.underlying t).isSome = true) (hd : P.underlying t' = some (.int .u64)) (h : 0 ≤ p ∧ p ≤ 18446744073709551615) : Pu P C n l (.convert t t' x) ty (.int .u64 p) := by
 have h1 := pu_conv (C := C) (n := n) (ty := ty) hx hs' hd
 rw [IntKind.wrap_u64, Int.emod_eq_of_lt h.1 (by omega)] at h1
 exact h1
theorem pu_conv_8 (hx : ev l x = some (.int k p)) (hs' : (P.underlying t).isSome = true) (hd : P.underlying t' = some (.int .u8)) (h : 0 ≤ p ∧ p ≤ 255) : Pu P C n l (.convert t t' x) ty (.int .u8 p) := by
 have h1 := pu_conv (C := C) (n := n) (ty := ty) hx hs' hd
 rw [IntKind.wrap_u8, Int.emod_eq_of_lt h.1 (by omega)] at h1
 exact h1
theorem pu_quo_u (hx : ev l x = some (.int .u64 p)) (hy : ev l y = some (.int .u64 q)) (hp : 0 ≤ p) (hq : 0 < q) (h : p ≤ 18446744073709551615) : Pu P C n l (.binOp .quo t x y t') ty (.int .u64 (p / q)) := by
 have h1 := pu_quo_0 (P := P) (C := C) (n := n) (ty := ty) (t := t) (t' := t') hx hy hp hq
 have h2 := Int.ediv_le_self q hp
 have h3 := Int.ediv_nonneg hp (Int.le_of_lt hq)
 rw [IntKind.wrap_u64, Int.emod_eq_of_lt h3 (by omega)] at h1
 exact h1
theorem pu_quo_i (hx : ev l x = some (.int .i64 p)) (hy : ev l y = some (.int .i64 q)) (hp : 0 ≤ p) (hq : 0 < q) (h : p ≤ 9223372036854775807) : Pu P C n l (.binOp .quo t x y t') ty (.int .i64 (p / q)) := by
 have h1 := pu_quo_0 (P := P) (C := C) (n := n) (ty := ty) (t := t) (t' := t') hx hy hp hq
 have h2 := Int.ediv_le_self q hp
 have h3 := Int.ediv_nonneg hp (Int.le_of_lt hq)
 rwa [IntWalk.i64_in _ ⟨by omega, by omega⟩] at h1
theorem pu_str_eql {s s' : ByteArray} (hx : ev l x = some (.string s)) (hy : ev l y = some (.string s')) : Pu P C n l (.binOp .eql t x y t') ty (.bool (s.toList == s'.toList)) := fun a _ _ _ _ W hs _ => by
 simp only [execOp, hs.ev hx, hs.ev hy]; simp [go_sem]
theorem pu_str_neq {s s' : ByteArray} (hx : ev l x = some (.string s)) (hy : ev l y = some (.string s')) : Pu P C n l (.binOp .neq t x y t') ty (.bool (s.toList != s'.toList)) := fun a _ _ _ _ W hs _ => by
 simp only [execOp, hs.ev hx, hs.ev hy]; simp [go_sem, bne]
theorem pu_str_eql_same {s : ByteArray} (hx : ev l x = some (.string s)) (hy : ev l y = some (.string s)) : Pu P C n l (.binOp .eql t x y t') ty (.bool true) := by
 have h := pu_str_eql (P := P) (C := C) (n := n) (ty := ty) (t := t) (t' := t') hx hy
 simpa using h
theorem pu_str_neq_same {s : ByteArray} (hx : ev l x = some (.string s)) (hy : ev l y = some (.string s)) : Pu P C n l (.binOp .neq t x y t') ty (.bool false) := by
 have h := pu_str_neq (P := P) (C := C) (n := n) (ty := ty) (t := t) (t' := t') hx hy
 simpa using h
end
section
variable {P : Program} {ops : Array Oper} {Q : Exit → Act → World → Prop} {n : Nat} {l : Env} {w : World} {rest : List Oper} {d : Tmp} {ty t t' e : TypeId} {pos : String} {after : Array Edge} {x y : Operand} {v z : Value} {A : Option Addr} {m c : Nat} {g : Nat} {cs : Array Value}
theorem ru_alloc (hz : zeroOf P t = some z) : Ru P n l (.alloc t) ty w (.pointer (some ⟨w.heap.size, 0, none⟩)) (w.alloc (.cells z.cells t)) := fun a _ _ _ _ hs => by
 obtain ⟨i, hi, hz'⟩ := zeroOf_spec hz
 simp [execOp, Instr.alloc, zeroValue, typeInfo, hi, hz', newVar, newRow]
theorem ru_box (hx : ev l x = some v) : Ru P n l (.box t x) ty w (.pointer (some ⟨w.heap.size, 0, none⟩)) (w.alloc (.cells v.cells t)) := fun a _ _ _ _ hs => by
 simp only [execOp, hs.ev hx]
 simp [Instr.box, newVar, newRow]
theorem ru_buildSlice {parts : List (Nat × Operand)} {ps : List (Nat × Value)} {cells : Array Value} {k : Nat} (hp : evp l parts = some ps) (hrun : ∀ W, (Instr.buildSlice t k ps.toArray).run P W = .ok (.slice (some ⟨W.heap.size, 0, none⟩) k k) (W.alloc (.cells cells e))) :
  Ru P n l (.buildSlice t k parts.toArray) ty w (.slice (some ⟨w.heap.size, 0, none⟩) k k) (w.alloc (.cells cells e)) := fun a _ _ _ _ hs => by
 have hmap : parts.toArray.map (fun (i, x) => (i, a.eval x)) = ps.toArray := by rw [List.map_toArray, hs.evp hp]
 simp only [execOp, hmap]
 rw [Sem.run_bind, hrun w]
 rfl
theorem wl_new {op : Op} (hr : Ru P n l op ty w v (w.alloc (.cells cs t))) (hd : Nat.blt d n = true) (h : ∀ w', Fr Nil w w' → w'.heap.size = w.heap.size + 1 → Blk w' w.heap.size t cs → WL P ops Q rest n ((d, v) :: l) w') :
  WL P ops Q (⟨some d, op, ty, pos, after, none⟩ :: rest) n l w :=
 wl_run hr hd (h _ ((Fr.refl Nil w).alloc _) (by simp) (Blk.new w t cs))
theorem rs_store {i : Nat} (hx : ev l x = some (.pointer (some ⟨g, i, none⟩))) (hy : ev l y = some v) (h1 : v.oneCell' = true) (ht : szOf P t = some 1) (hb : Blk w g t' cs) (hi : i < cs.size) :
  Rs P n l (.store t x y) ty w (w.setCell ⟨g, i, none⟩ v) := fun a _ _ _ _ hs => by
 have hc : w.cell? ⟨g, i, none⟩ = some cs[i] := by rw [hb.cell, Array.getElem?_eq_getElem hi]
 have hf := hb.frozen i
 simp only [execOp, hs.ev hx, hs.ev hy]
 cases v <;> first
  | (simp [Value.oneCell'] at h1; done)
  | (simp [Instr.storeAt, Instr.sureAddr, storeVar, Value.cells, run_size ht, storeCells, store, Sem.run, hc, hf, Addr.add])
theorem wl_store {i : Nat} (hx : ev l x = some (.pointer (some ⟨g, i, none⟩))) (hy : ev l y = some v) (h1 : v.oneCell' = true) (ht : szOf P t = some 1) (hb : Blk w g t' cs) (hi : i < cs.size)
  (h : ∀ w', Fr (fun k => k = g) w w' → w'.heap.size = w.heap.size → Blk w' g t' (cs.setIfInBounds i v) → WL P ops Q rest n l w') : WL P ops Q (⟨none, .store t x y, ty, pos, after, none⟩ :: rest) n l w :=
 wl_skip (rs_store hx hy h1 ht hb hi) (h _ ((Fr.refl (fun k => k = g) w).setCell (.inr rfl) _) (by simp [World.setCell]) (hb.set_ i v))
end
section
variable {P : Program} {ops : Array Oper} {Q : Exit → Act → World → Prop} {n : Nat} {l : Env} {w : World} {rest : List Oper} {d : Tmp} {ty t e : TypeId} {pos : String} {after : Array Edge} {gd : Option (Nat × Bool)} {x y : Operand} {v z : Value} {A : Option Addr} {k m c size bytes : Nat} {xs news : List Value} {dst : Option Tmp}
theorem ru_app (hs0 : ev l x = some v) (hy : ev l y = some (.slice A m c)) (ht : P.underlying t = some (.slice e)) (hi : (P.info? e).map (fun i => (i.zero, i.size, i.bytes)) = some (some z, size, bytes)) (hzs : z.cells.size = size) (hsz : 0 < size)
  (hown : w.ownsRow 0 e size v k xs) (hr : Reads w size A m news) (h1 : ∀ u ∈ news, u.oneCell' = true) (h63 : k + m ≤ maxLen) (hby : (k + m) * bytes ≤ 140737488355328) :
  ∃ V' c' w', Ru P n l (.call { callee := .builtin .append, args := #[x, y], argTypes := #[t, t] }) ty w (.slice V' (k + m) c') w' ∧ w'.ownsRow 0 e size (.slice V' (k + m) c') (k + m) (xs ++ news) ∧ w.grownBy w' v.ownBlock ∧
   ((Value.slice V' (k + m) c').ownBlock = v.ownBlock ∨ (Value.slice V' (k + m) c').ownBlock = some w.heap.size) := by
 obtain ⟨i, hi0, hz0, hz1, hz2⟩ := info_parts hi
 obtain ⟨v', w', hrun, h2, h3, h4⟩ := run_app (P := P) w t ty e i z size bytes ht hi0 hz0 hz1 hz2 hzs hsz v k xs hown A m c news hr h1 h63 hby
 obtain ⟨V', c', rfl⟩ := own_form h2
 refine ⟨V', c', w', fun a _ _ _ _ hs => ?_, h2, h3, h4⟩
 simp only [execOp, resolve, List.map_toArray, List.map_cons, List.map_nil, hs.ev hs0, hs.ev hy]
 simp only [invoke, builtin, Sem.run_bind, Sem.run_pure, Result.andThen_ok, hrun]
theorem wl_app (hs0 : ev l x = some v) (hy : ev l y = some (.slice A m c)) (ht : P.underlying t = some (.slice e)) (hi : (P.info? e).map (fun i => (i.zero, i.size, i.bytes)) = some (some z, size, bytes)) (hzs : z.cells.size = size) (hsz : 0 < size)
  (hd : Nat.blt d n = true) (hown : w.ownsRow 0 e size v k xs) (hr : Reads w size A m news) (h1 : ∀ u ∈ news, u.oneCell' = true) (h63 : k + m ≤ maxLen) (hby : (k + m) * bytes ≤ 140737488355328)
  (h : ∀ V' c' w', w'.ownsRow 0 e size (.slice V' (k + m) c') (k + m) (xs ++ news) → w.grownBy w' v.ownBlock → ((Value.slice V' (k + m) c').ownBlock = v.ownBlock ∨ (Value.slice V' (k + m) c').ownBlock = some w.heap.size) →
    WL P ops Q rest n ((d, .slice V' (k + m) c') :: l) w') : WL P ops Q (⟨some d, .call { callee := .builtin .append, args := #[x, y], argTypes := #[t, t] }, ty, pos, after, none⟩ :: rest) n l w := by
 obtain ⟨V', c', w', hru, h2, h3, h4⟩ := ru_app (n := n) (ty := ty) hs0 hy ht hi hzs hsz hown hr h1 h63 hby
 exact wl_run hru hd (h V' c' w' h2 h3 h4)
def WD (P : Program) (ops : Array Oper) (Q : Exit → Act → World → Prop) (S : World → Prop) (need : Nat → Bool) (fuel : Nat) (listed : Array Bool) (n : Nat) (l : Env) (w : World) : Prop := ∀ a, Sl n l a → wpAnyD P .any ops Q S need fuel listed a w
def NoP (Q : Exit → Act → World → Prop) : Prop := ∀ c a d u w, Q (.panic c) (Act.put a d u) w → Q (.panic c) a w
theorem nop_then {K : Act → World → Prop} (h : NoP Q) : NoP (Exit.then K Q) := fun c a d u w h' => h c a d u w h'
theorem nop_block {id : Nat} (h : NoP Q) : NoP (Exit.inBlock id Q) := fun c a d u w h' => h c a d u w h'
theorem nop_body {fn : Func} {R : Ending → World → Prop} : NoP (bodyPost P fn R) := fun c a d u w h => by cases d <;> exact h
variable {S : World → Prop} {need : Nat → Bool} {fuel : Nat} {listed : Array Bool} {op : Op}
theorem wc_drawn {id : Nat} {o : List Oper} (S : World → Prop) (need : Nat → Bool) (hm : P.follows .mixedOrders = true) (N : Nat) (hN : o.length = N) (h : WD P o.toArray Q S need N (Array.replicate N false) n l w.drew) : WC P (.region id o.toArray true) Q n l w := fun a hs =>
 D_region S need hm (by subst hN; simpa using h a hs)
theorem wd_take (i : Nat) (hi : ops[i]? = some ⟨some d, op, ty, pos, after, none⟩) (hB : (Region.noSelect ops && Region.free .any ops listed i && (Region.ready .any ops listed).contains i && needOk .any ops need i) = true)
  (hQ : NoP Q) (hr : Pu P S n l op ty v) (hd : Nat.blt d n = true) (hS : S w) (h : WD P ops Q S need fuel (listed.setIfInBounds i true) n ((d, v) :: l) w) : WD P ops Q S need (fuel + 1) listed n l w := fun a hs =>
 D_take hi hB hQ (.inl ⟨by simp [Region.wanted], fun W hW => hr a _ _ _ _ W hs hW⟩) hS (h _ (hs.put hd v))
theorem wd_run (i : Nat) {w' : World} (hr : Region.ready .any ops listed = [i]) (ho : ops[i]? = some ⟨some d, op, ty, pos, after, none⟩) (hru : Ru P n l op ty w v w') (hd : Nat.blt d n = true) (hS : need i = true → S w')
  (h : WD P ops Q S need fuel (listed.setIfInBounds i true) n ((d, v) :: l) w') : WD P ops Q S need (fuel + 1) listed n l w := fun a hs =>
 D_val hr ho (by simp [Region.wanted]) (hru a _ _ _ _ hs) hS (h _ (hs.put hd v))
theorem wd_new (i : Nat) {cs : Array Value} (hr : Region.ready .any ops listed = [i]) (ho : ops[i]? = some ⟨some d, op, ty, pos, after, none⟩) (hru : Ru P n l op ty w v (w.alloc (.cells cs t))) (hd : Nat.blt d n = true)
  (h : ∀ w', Fr Nil w w' → w'.heap.size = w.heap.size + 1 → Blk w' w.heap.size t cs → (need i = true → S w') ∧ WD P ops Q S need fuel (listed.setIfInBounds i true) n ((d, v) :: l) w') : WD P ops Q S need (fuel + 1) listed n l w := by
 obtain ⟨h1, h2⟩ := h _ ((Fr.refl Nil w).alloc _) (by simp) (Blk.new w t cs)
 exact wd_run i hr ho hru hd h1 h2
theorem wd_skip (i : Nat) {w' : World} (hr : Region.ready .any ops listed = [i]) (ho : ops[i]? = some ⟨none, op, ty, pos, after, none⟩) (hru : Rs P n l op ty w w') (hS : need i = true → S w')
  (h : WD P ops Q S need fuel (listed.setIfInBounds i true) n l w') : WD P ops Q S need (fuel + 1) listed n l w := fun a hs =>
 D_unit hr ho (by simp [Region.wanted]) (hru a _ _ _ _ hs) hS (h _ hs)
theorem wd_call (i : Nat) {f : FuncId} {cap : List Value} {xs : List Operand} {vs : List Value} {ats : Array TypeId} {R : Ending → World → Prop} (hr : Region.ready .any ops listed = [i]) (ho : ops[i]? = some ⟨some d, .call { callee := .value x, args := xs.toArray, argTypes := ats }, ty, pos, after, none⟩)
  (hx : ev l x = some (.func (.func f) #[] cap.toArray)) (hv : evs l xs = some vs) (hf : callable P f = true) (hd : Nat.blt d n = true)
  (hc : Calls P f (vs ++ cap).toArray w R) (h : ∀ e w', R e w' → ∃ v, e = .returned v ∧ (need i = true → S w') ∧ WD P ops Q S need fuel (listed.setIfInBounds i true) n ((d, v) :: l) w') : WD P ops Q S need (fuel + 1) listed n l w := fun a hs =>
 D_law hr ho (by simp [Region.wanted]) (by
   unfold Oper.wp
   rw [run_call hs hx hv hf w, Oper.upon_enter]
   refine hc.mono fun e w' hR => ?_
   obtain ⟨v, rfl, h0, h1⟩ := h e w' hR
   exact ⟨h0, h1 _ (hs.put hd v)⟩)
theorem wd_pu (i : Nat) (hr : Region.ready .any ops listed = [i]) (ho : ops[i]? = some ⟨some d, op, ty, pos, after, none⟩) (hru : Pu P (fun W => W = w) n l op ty v) (hd : Nat.blt d n = true) (hS : need i = true → S w)
  (h : WD P ops Q S need fuel (listed.setIfInBounds i true) n ((d, v) :: l) w) : WD P ops Q S need (fuel + 1) listed n l w :=
 wd_run i hr ho (fun a _ _ _ _ hs => hru a _ _ _ _ w hs rfl) hd hS h
theorem wd_die (i : Nat) {f : FuncId} {cap : List Value} {xs : List Operand} {vs : List Value} {ats : Array TypeId} {R : Ending → World → Prop} (hr : Region.ready .any ops listed = [i]) (ho : ops[i]? = some ⟨dst, .call { callee := .value x, args := xs.toArray, argTypes := ats }, ty, pos, after, none⟩)
  (hx : ev l x = some (.func (.func f) #[] cap.toArray)) (hv : evs l xs = some vs) (hf : callable P f = true)
  (hc : Calls P f (vs ++ cap).toArray w R) (h : ∀ e w', R e w' → ∃ c, e = .panicked c ∧ WE Q (.panic c) n l w') : WD P ops Q S need (fuel + 1) listed n l w := fun a hs =>
 D_law hr ho (by simp [Region.wanted]) (by
   unfold Oper.wp
   rw [run_call hs hx hv hf w, Oper.upon_enter]
   refine hc.mono fun e w' hR => ?_
   obtain ⟨c, rfl, h1⟩ := h e w' hR
   exact h1 a hs)
def WA (P : Program) (ops : Array Oper) (Q : Exit → Act → World → Prop) (S : World → Prop) (need : Nat → Bool) (fuel : Nat) (listed : Array Bool) (n : Nat) (l : Env) (w : World) (i : Nat) : Prop :=
 ∀ a, Sl n l a → wpOp P ops Q i (fun a' w' => (need i = true → S w') ∧ wpAnyD P .any ops Q S need fuel (listed.setIfInBounds i true) a' w') a w
theorem wd_two (i j : Nat) (hr : Region.ready .any ops listed = [i, j]) (hi : WA P ops Q S need fuel listed n l w i) (hj : WA P ops Q S need fuel listed n l w j) : WD P ops Q S need (fuel + 1) listed n l w := fun a hs =>
 ⟨fun h0 => (by rw [hr] at h0; cases h0), fun k hk => by
   rw [hr] at hk
   rcases List.mem_cons.1 hk with e | e
   · subst e
     exact hi a hs
   · have := List.mem_singleton.1 e
     subst this
     exact hj a hs⟩
theorem wa_run (i : Nat) {w' : World} (ho : ops[i]? = some ⟨some d, op, ty, pos, after, none⟩) (hru : Ru P n l op ty w v w') (hd : Nat.blt d n = true) (hS : need i = true → S w')
  (h : WD P ops Q S need fuel (listed.setIfInBounds i true) n ((d, v) :: l) w') : WA P ops Q S need fuel listed n l w i := fun a hs => D_run ho (by simp [Region.wanted]) (hru a _ _ _ _ hs) ⟨hS, h _ (hs.put hd v)⟩
theorem wa_new (i : Nat) {cs : Array Value} (ho : ops[i]? = some ⟨some d, op, ty, pos, after, none⟩) (hru : Ru P n l op ty w v (w.alloc (.cells cs t))) (hd : Nat.blt d n = true)
  (h : ∀ w', Fr Nil w w' → w'.heap.size = w.heap.size + 1 → Blk w' w.heap.size t cs → (need i = true → S w') ∧ WD P ops Q S need fuel (listed.setIfInBounds i true) n ((d, v) :: l) w') : WA P ops Q S need fuel listed n l w i := by
 obtain ⟨h1, h2⟩ := h _ ((Fr.refl Nil w).alloc _) (by simp) (Blk.new w t cs)
 exact wa_run i ho hru hd h1 h2
theorem wa_call (i : Nat) {f : FuncId} {cap : List Value} {xs : List Operand} {vs : List Value} {ats : Array TypeId} {R : Ending → World → Prop} (ho : ops[i]? = some ⟨some d, .call { callee := .value x, args := xs.toArray, argTypes := ats }, ty, pos, after, none⟩)
  (hx : ev l x = some (.func (.func f) #[] cap.toArray)) (hv : evs l xs = some vs) (hf : callable P f = true) (hd : Nat.blt d n = true)
  (hc : Calls P f (vs ++ cap).toArray w R) (h : ∀ e w', R e w' → ∃ v, e = .returned v ∧ (need i = true → S w') ∧ WD P ops Q S need fuel (listed.setIfInBounds i true) n ((d, v) :: l) w') : WA P ops Q S need fuel listed n l w i := fun a hs =>
 D_wp ho (by simp [Region.wanted]) (by
   unfold Oper.wp
   rw [run_call hs hx hv hf w, Oper.upon_enter]
   refine hc.mono fun e w' hR => ?_
   obtain ⟨v, rfl, h0, h1⟩ := h e w' hR
   exact ⟨h0, h1 _ (hs.put hd v)⟩)
theorem wd_done (hr : Region.ready .any ops listed = []) (h : WE Q .normal n l w) : WD P ops Q S need fuel listed n l w := fun a hs => D_done hr (h a hs) fuel
end
section
variable {P : Program} {ops : Array Oper} {Q : Exit → Act → World → Prop} {n : Nat} {l : Env} {w w' : World} {rest : List Oper} {C : World → Prop} {q : Act → Prop} {d : Tmp} {op : Op} {ty t t' : TypeId} {pos : String} {after : Array Edge} {v : Value} {x y : Operand} {ad : Addr} {g i o : Nat} {cs : Array Value}
theorem pu_fieldAddr_b {fs : List Field} (hx : ev l x = some (.pointer (some ⟨g, i, none⟩))) (ht : P.underlying t = some (.struct fs.toArray)) {j : Nat} (hf : fieldOff fs j = some o) (hz : stOf P t = true) :
  Pu P C n l (.fieldAddr t x j) ty (.pointer (some ⟨g, i + o, none⟩)) := by
 have h := pu_fieldAddr (C := C) (n := n) (ty := ty) hx ht hf hz
 rwa [add_none] at h
theorem pu_fieldAddr_0 {fs : List Field} (hx : ev l x = some (.pointer (some ⟨g, 0, none⟩))) (ht : P.underlying t = some (.struct fs.toArray)) {j : Nat} (hf : fieldOff fs j = some o) (hz : stOf P t = true) :
  Pu P C n l (.fieldAddr t x j) ty (.pointer (some ⟨g, o, none⟩)) := by
 have h := pu_fieldAddr_b (C := C) (n := n) (ty := ty) hx ht hf hz
 rwa [Nat.zero_add] at h
theorem pu_load_b (hx : ev l x = some (.pointer (some ⟨g, i, none⟩))) (ht : plainT P t = true) (hb : ∀ W, C W → Blk W g t' cs) (hi : nth cs.toList i = some v) : Pu P C n l (.load t x) ty v :=
 pu_load hx ht (fun W hW => by rw [(hb W hW).cell, ← Array.getElem?_toList, ← nth_eq]; exact hi)
theorem wl_ldb (hb : Blk w g t' cs) (hx : ev l x = some (.pointer (some ⟨g, i, none⟩))) (ht : plainT P t = true) (hi : nth cs.toList i = some v) (hd : Nat.blt d n = true) (h : WL P ops Q rest n ((d, v) :: l) w) :
  WL P ops Q (⟨some d, .load t x, ty, pos, after, none⟩ :: rest) n l w := wl_pu (pu_load_b hx ht (fun W hW => by rw [hW]; exact hb) hi) hd h
theorem wl_ld (hc : w.cell? ad = some v) (hx : ev l x = some (.pointer (some ad))) (ht : plainT P t = true) (hd : Nat.blt d n = true) (h : WL P ops Q rest n ((d, v) :: l) w) :
  WL P ops Q (⟨some d, .load t x, ty, pos, after, none⟩ :: rest) n l w := wl_pu (pu_load hx ht (fun W hW => by rw [hW]; exact hc)) hd h
theorem setCells_size (g : Nat) : ∀ (vs : List Value) (o : Nat) (w : World), (w.setCells g o vs).heap.size = w.heap.size
 | [], _, _ => rfl
 | v :: r, o, w => by rw [World.setCells, setCells_size g r]; simp [World.setCell]
theorem wl_store_blk {cells : Array Value} {k : Nat} (hx : ev l x = some (.pointer (some ⟨g, 0, none⟩))) (hy : ev l y = some (.agg cells)) (hb : Blk w g t' cs) (hi : szOf P t = some k) (hn : cells.size = k) (hc : cs.size = k)
  (h1 : ∀ v ∈ cells.toList, v.oneCell' = true) (h : ∀ w', Fr (fun j => j = g) w w' → w'.heap.size = w.heap.size → Blk w' g t' cells → WL P ops Q rest n l w') : WL P ops Q (⟨none, .store t x y, ty, pos, after, none⟩ :: rest) n l w := WL.mk fun a hs =>
 wpList_store_mid rfl t x y rfl g 0 cells (hs.ev hx) (hs.ev hy) (fun j hj => ⟨by rw [hb.cell, Array.getElem?_eq_getElem (by omega)]; rfl, hb.frozen _⟩) (by rw [hn, ← szOf_eq]; exact hi) (by have := all_oneCell_toArray h1; simpa using this)
  ((h _ (setCells_fr _ _ _) (by simp [setCells_size]) (setCells_blk hb cells (by omega))).get hs)
end
inductive OpIs : Op → Prop
 | bin {t t' : TypeId} {x y : Operand} (o : BinOp) : OpIs (.binOp o t x y t')
 | load {t : TypeId} {x : Operand} : OpIs (.load t x)
 | fa {t : TypeId} {x : Operand} {i : Nat} : OpIs (.fieldAddr t x i)
 | un {t : TypeId} {x : Operand} {o : UnOp} : OpIs (.unOp o t x)
 | cv {t t' : TypeId} {x : Operand} : OpIs (.convert t t' x)
 | bi {b : Builtin} {xs : Array Operand} {ts : Array TypeId} : OpIs (.call { callee := .builtin b, args := xs, argTypes := ts })
 | ia {t : TypeId} {x y : Operand} : OpIs (.indexAddr t x y)
 | sl {t : TypeId} {x : Operand} {lo hi mx : Option Operand} : OpIs (.slice t x lo hi mx)
theorem wl_is {P : Program} {ops : Array Oper} {Q : Exit → Act → World → Prop} {rest : List Oper} {n : Nat} {l : Env} {w : World} {dst : Option Tmp} {op : Op} {ty : TypeId} {pos : String} {after : Array Edge} {g : Option (Nat × Bool)} (_ : OpIs op)
  (h : WL P ops Q (⟨dst, op, ty, pos, after, g⟩ :: rest) n l w) : WL P ops Q (⟨dst, op, ty, pos, after, g⟩ :: rest) n l w := h
theorem wl_any {P : Program} {ops : Array Oper} {Q : Exit → Act → World → Prop} {rest : List Oper} {n : Nat} {l : Env} {w : World} {o : Oper} (h : WL P ops Q (o :: rest) n l w) : WL P ops Q (o :: rest) n l w := h
theorem WC.mk {P : Program} {c : Code} {Q : Exit → Act → World → Prop} {n : Nat} {l : Env} {w : World} (h : ∀ a, Sl n l a → c.wp P Q a w) : WC P c Q n l w := h
theorem WE.mk {Q : Exit → Act → World → Prop} {e : Exit} {n : Nat} {l : Env} {w : World} (h : ∀ a, Sl n l a → Q e a w) : WE Q e n l w := h
theorem WE.get {Q : Exit → Act → World → Prop} {e : Exit} {n : Nat} {l : Env} {w : World} (h : WE Q e n l w) {a : Act} (hs : Sl n l a) : Q e a w := h a hs
theorem WC.get {P : Program} {c : Code} {Q : Exit → Act → World → Prop} {n : Nat} {l : Env} {w : World} (h : WC P c Q n l w) {a : Act} (hs : Sl n l a) : c.wp P Q a w := h a hs
attribute [irreducible] WL WC WE WQ WD WA Pu Ru Rs
end
end
end Go.Proofs.YtocaabnbmcpjmaaGreat
