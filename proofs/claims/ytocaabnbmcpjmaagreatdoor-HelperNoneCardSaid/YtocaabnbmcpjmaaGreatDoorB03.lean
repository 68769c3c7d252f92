/- Several texts of one claim, one behind the other (Eq, Sep, Sp2, Sp3). -/
import Derived.Test.YtocaabnbmcpjmaaGreatDoorB02
import Derived.Test.YtocaabnbmcpjmaaGreatDoorB01
import Derived.Stop.BytesEq
import Derived.Laws.CopyOwn
import Derived.Laws.MakeOwn
import Derived.Lib.Overlaps
import Derived.Lib.AppendZerosOnto
set_option linter.unusedVariables false
set_option linter.unusedSimpArgs false
/- Two arrays of bytes: are they the same? No program is in sight. -/
namespace Go.Proofs.YtocaabnbmcpjmaaGreatDoor
open Go.RowKit

def u8s (xs : List Int) : List UInt8 := xs.map fun x => UInt8.ofNat x.toNat
section
variable {P : Program} {C : World → Prop} {n : Nat} {l : Env} {ty t t' e : TypeId} {x y : Operand} {xs ys : List Int} {N : Nat}
end

end Go.Proofs.YtocaabnbmcpjmaaGreatDoor
/- A walk whose memory is a list of facts, each with the blocks that it holds, no block held twice: no world, no frame is carried. No program is in sight. -/
namespace Go.Proofs.YtocaabnbmcpjmaaGreatDoor
open Go.RowKit

/-- A fact of the memory: what it says, the blocks that it speaks of. -/
structure Fa where
  P : World → Prop
  F : Nat → Prop
  lt : ∀ {w k}, P w → F k → k < w.heap.size
  st : ∀ {S : Nat → Prop} {w w'}, P w → Fr S w w' → (∀ k, F k → ¬ S k) → P w'

def Apart (f : Fa) (L : List Fa) : Prop := ∀ g ∈ L, ∀ k, f.F k → ¬ g.F k
def Sep (w : World) : List Fa → Prop
  | [] => True
  | f :: L => f.P w ∧ Apart f L ∧ Sep w L
abbrev In (L : List Fa) : World → Prop := fun w => Sep w L
def foot (L : List Fa) : Nat → Prop := fun k => ∃ f ∈ L, f.F k

inductive At : Fa → List Fa → Prop
  | here {f : Fa} {L : List Fa} : At f (f :: L)
  | there {f g : Fa} {L : List Fa} : At f L → At f (g :: L)
inductive Pick : Fa → List Fa → List Fa → Prop
  | here {f : Fa} {L : List Fa} : Pick f (f :: L) L
  | there {f g : Fa} {L L' : List Fa} : Pick f L L' → Pick f (g :: L) (g :: L')
inductive Sub : List Fa → List Fa → Prop
  | nil {L : List Fa} : Sub L []
  | refl {L : List Fa} : Sub L L
  | cons {f : Fa} {L L1 L' : List Fa} : Pick f L L1 → Sub L1 L' → Sub L (f :: L')
  | skip {f : Fa} {L L' : List Fa} : Sub L L' → Sub (f :: L) L'
  | free {f : Fa} {L L' : List Fa} : (∀ w, f.P w) → (∀ k, ¬ f.F k) → Sub L L' → Sub L (f :: L')

section
variable {w w' : World} {f g : Fa} {L L' : List Fa}
theorem At.mem (h : At f L) : f ∈ L := by
  induction h with
  | here => exact List.mem_cons_self ..
  | there _ ih => exact List.mem_cons_of_mem _ ih
theorem Sep.mem : ∀ {L : List Fa}, Sep w L → f ∈ L → f.P w
  | g :: L, ⟨h1, _, h3⟩, h => by
    rcases List.mem_cons.1 h with h | h
    · subst h
      exact h1
    · exact h3.mem h
theorem Sep.at (h : Sep w L) (hp : At f L) : f.P w := h.mem hp.mem
theorem Sep.tl (h : Sep w (f :: L)) : Sep w L := h.2.2
theorem Sep.hd (h : Sep w (f :: L)) : f.P w := h.1
theorem Sep.apart (h : Sep w (f :: L)) : ∀ g ∈ L, ∀ k, f.F k → ¬ g.F k := h.2.1
theorem Pick.mem {L L' : List Fa} (h : Pick f L L') : ∀ x, x ∈ L ↔ x = f ∨ x ∈ L' := by
  induction h with
  | here => intro x; simp
  | there _ ih =>
    intro x
    rw [List.mem_cons, ih x, List.mem_cons]
    constructor <;> rintro (h | h | h) <;> simp [h]
theorem Sep.pick (h : Sep w L) (hp : Pick f L L') : Sep w (f :: L') := by
  induction hp with
  | here => exact h
  | there hp ih =>
    rename_i g L L'
    obtain ⟨h1, h2, h3⟩ := h
    obtain ⟨i1, i2, i3⟩ := ih h3
    refine ⟨i1, fun x hx k hk hk' => ?_, h1, fun x hx => h2 x ((hp.mem x).2 (.inr hx)), i3⟩
    rcases List.mem_cons.1 hx with e | e
    · subst e
      exact h2 _ ((hp.mem _).2 (.inl rfl)) k hk' hk
    · exact i2 x e k hk hk'
theorem Sub.mem (h : Sub L L') : ∀ x ∈ L', x ∈ L ∨ ∀ k, ¬ x.F k := by
  induction h with
  | nil => intro x hx; cases hx
  | refl => exact fun _ h => .inl h
  | cons hp _ ih =>
    intro x hx
    rcases List.mem_cons.1 hx with e | e
    · exact .inl ((hp.mem x).2 (.inl e))
    · exact (ih x e).imp (fun h => (hp.mem x).2 (.inr h)) id
  | skip _ ih => exact fun x hx => (ih x hx).imp (List.mem_cons_of_mem _) id
  | free _ hF _ ih =>
    intro x hx
    rcases List.mem_cons.1 hx with e | e
    · subst e
      exact .inr hF
    · exact ih x e
theorem Sep.sub (h : Sep w L) (hs : Sub L L') : Sep w L' := by
  induction hs with
  | nil => exact trivial
  | refl => exact h
  | cons hp hs ih =>
    have h1 := h.pick hp
    exact ⟨h1.1, fun x hx k hk hk' => (hs.mem x hx).elim (fun e => h1.2.1 x e k hk hk') (fun e => e k hk'), ih h1.2.2⟩
  | skip _ ih => exact ih h.tl
  | free hP hF _ ih => exact ⟨hP w, fun _ _ k hk _ => hF k hk, ih h⟩
theorem Sep.foot_lt : ∀ {L : List Fa}, Sep w L → ∀ k, foot L k → k < w.heap.size := fun h k ⟨f, hf, hk⟩ => f.lt (h.mem hf) hk
theorem Sep.fr {S : Nat → Prop} : ∀ {L : List Fa}, Sep w L → Fr S w w' → (∀ k, foot L k → ¬ S k) → Sep w' L
  | [], _, _, _ => trivial
  | f :: L, ⟨h1, h2, h3⟩, hF, hS => ⟨f.st h1 hF (fun k hk => hS k ⟨f, List.mem_cons_self .., hk⟩), h2, Sep.fr h3 hF (fun k ⟨g, hg, hk⟩ => hS k ⟨g, List.mem_cons_of_mem _ hg, hk⟩)⟩
theorem Sep.nil (h : Sep w L) (hF : Fr Nil w w') : Sep w' L := h.fr hF (fun _ _ e => e)
theorem Sep.app_l : ∀ {A B : List Fa}, Sep w (A ++ B) → Sep w A
  | [], _, _ => trivial
  | f :: A, B, ⟨h1, h2, h3⟩ => ⟨h1, fun x hx => h2 x (List.mem_append_left _ hx), Sep.app_l h3⟩
theorem Sep.app_r : ∀ {A B : List Fa}, Sep w (A ++ B) → Sep w B
  | [], _, h => h
  | f :: A, B, h => Sep.app_r (A := A) h.2.2
theorem Sep.app_apart : ∀ {A B : List Fa}, Sep w (A ++ B) → ∀ k, foot A k → ¬ foot B k
  | [], _, _, k, ⟨_, hf, _⟩, _ => by cases hf
  | f :: A, B, ⟨h1, h2, h3⟩, k, ⟨g, hg, hk⟩, ⟨b, hb, hkb⟩ => by
    rcases List.mem_cons.1 hg with e | e
    · subst e
      exact h2 b (List.mem_append_right _ hb) k hk hkb
    · exact Sep.app_apart h3 k ⟨g, e, hk⟩ ⟨b, hb, hkb⟩
theorem Sep.app : ∀ {A B : List Fa}, Sep w A → Sep w B → (∀ k, foot A k → ¬ foot B k) → Sep w (A ++ B)
  | [], _, _, h, _ => h
  | f :: A, B, ⟨h1, h2, h3⟩, hB, hd => by
    refine ⟨h1, fun x hx k hk hk' => ?_, Sep.app h3 hB (fun k ⟨g, hg, hk⟩ => hd k ⟨g, List.mem_cons_of_mem _ hg, hk⟩)⟩
    rcases List.mem_append.1 hx with e | e
    · exact h2 x e k hk hk'
    · exact hd k ⟨f, List.mem_cons_self .., hk⟩ ⟨x, e, hk'⟩
/-- What is done to some facts leaves the others. -/
theorem Sep.steps {A B K : List Fa} {S : Nat → Prop} (h : Sep w (A ++ K)) (hF : Fr S w w') (hS : ∀ k, k < w.heap.size → S k → foot A k) (hB : Sep w' B) (hf : ∀ k, foot B k → foot A k ∨ w.heap.size ≤ k) : Sep w' (B ++ K) := by
  have hK := h.app_r
  have hd := h.app_apart
  refine hB.app (hK.fr hF (fun k hk e => hd k (hS k (hK.foot_lt k hk) e) hk)) (fun k hk hk' => ?_)
  rcases hf k hk with e | e
  · exact hd k e hk'
  · have := hK.foot_lt k hk'
    omega
theorem foot_nil {k : Nat} : ¬ foot [] k := fun ⟨_, h, _⟩ => by cases h
theorem foot_cons {k : Nat} : foot (f :: L) k ↔ f.F k ∨ foot L k := by
  constructor
  · rintro ⟨g, hg, hk⟩
    rcases List.mem_cons.1 hg with e | e
    · subst e
      exact .inl hk
    · exact .inr ⟨g, e, hk⟩
  · rintro (h | ⟨g, hg, hk⟩)
    · exact ⟨f, List.mem_cons_self .., h⟩
    · exact ⟨g, List.mem_cons_of_mem _ hg, hk⟩
theorem Sep.step {S : Nat → Prop} (h : Sep w (f :: L)) (hF : Fr S w w') (hS : ∀ k, k < w.heap.size → S k → f.F k) (hg : g.P w') (hf : ∀ k, g.F k → f.F k ∨ w.heap.size ≤ k) : Sep w' (g :: L) :=
  Sep.steps (A := [f]) (B := [g]) h hF (fun k hk hs => foot_cons.2 (.inl (hS k hk hs))) ⟨hg, (fun x hx => by cases hx), trivial⟩ (fun k hk => by
    rcases foot_cons.1 hk with e | e
    · exact (hf k e).imp (fun e => foot_cons.2 (.inl e)) id
    · exact absurd e foot_nil)
theorem Sep.new (h : Sep w L) (hF : Fr Nil w w') (hg : g.P w') (hf : ∀ k, g.F k → w.heap.size ≤ k) : Sep w' (g :: L) :=
  ⟨hg, fun x hx k hk hk' => by have := x.lt (h.mem hx) hk'; have := hf k hk; omega, h.nil hF⟩
end

/-! ### Kinds of facts -/
/-- A block, known whole. -/
def blk (g : Nat) (t : TypeId) (cs : List Value) : Fa := ⟨fun w => Blk w g t cs.toArray, fun k => k = g, fun h e => by rw [e]; exact h.lt, fun h hF hn => h.fr hF (hn _ rfl)⟩
/-- An owned row: n elements, of 'size' cells each. -/
def own (e : TypeId) (size : Nat) (A : Option Addr) (n c : Nat) (xs : List Value) : Fa :=
  ⟨fun w => w.ownsRow 0 e size (.slice A n c) n xs, fun k => blockOf A = some k, fun h e => own_lt h (own_of_blockOf e), fun h hF hn => own_fr h hF (fun k hk => hn k (by cases A <;> simp_all [Value.ownBlock, blockOf]))⟩
/-- All that there was at w0, as it was. -/
def old (w0 : World) : Fa := ⟨fun w => Fr Nil w0 w, fun k => k < w0.heap.size, fun h e => by have := h.size; omega, fun h hF hn => h.trans hF (fun k hk e => absurd e (hn k hk))⟩
/-- Some blocks as they were at w0. -/
def ice (w0 : World) (Z : Nat → Prop) : Fa := ⟨fun w => w0.heap.size ≤ w.heap.size ∧ ∀ k, k < w0.heap.size → Z k → w.heap[k]? = w0.heap[k]?, fun k => k < w0.heap.size ∧ Z k, fun h e => by have := h.1; omega,
  fun h hF hn => ⟨Nat.le_trans h.1 hF.size, fun k hk hz => (hF.block k (Nat.lt_of_lt_of_le hk h.1) (hn k ⟨hk, hz⟩)).trans (h.2 k hk hz)⟩⟩
/-- Several facts as one. -/
def star (L : List Fa) : Fa := ⟨fun w => Sep w L, fun k => foot L k, fun h e => h.foot_lt _ e, fun h hF hn => h.fr hF hn⟩

theorem Sub.own_nil {e : TypeId} {size : Nat} {L L' : List Fa} (h : Sub L L') : Sub L (own e size none 0 0 [] :: L') := .free (fun w => World.ownsRow_nil w 0 e size) (fun _ hk => by cases hk) h
/-- What holds wherever the facts do. -/
def Vw (L : List Fa) (φ : World → Prop) : Prop := ∀ w, Sep w L → φ w
section
variable {w w0 : World} {f : Fa} {L L' : List Fa} {φ : World → Prop}
theorem Vw.mono (h : Vw L φ) (hs : Sub L' L) : Vw L' φ := fun w hw => h w (hw.sub hs)
theorem Vw.imp {ψ : World → Prop} (h : Vw L φ) (hi : ∀ w, φ w → ψ w) : Vw L ψ := fun w hw => hi w (h w hw)
theorem Vw.of_old {size n : Nat} {A : Option Addr} {xs : List Value} (h : At (old w0) L) (hr : Reads w0 size A n xs) : Vw L (fun w => Reads w size A n xs) := fun _ hw => hr.fr (hw.at h) (fun _ _ e => e)
theorem Vw.of_own {e : TypeId} {size n c : Nat} {A : Option Addr} {xs : List Value} (h : At (own e size A n c xs) L) : Vw L (fun w => Reads w size A n xs) := fun _ hw => Reads.of_own (hw.at h)
theorem Sep.start (w : World) : Sep w [old w] := ⟨Fr.refl _ _, (fun _ h => by cases h), trivial⟩
end

/-! ### The walk -/
def SL (P : Program) (ops : Array Oper) (Q : Exit → Act → World → Prop) (rest : List Oper) (n : Nat) (l : Env) (L : List Fa) : Prop := ∀ w, Sep w L → WL P ops Q rest n l w
def SC (P : Program) (c : Code) (Q : Exit → Act → World → Prop) (n : Nat) (l : Env) (L : List Fa) : Prop := ∀ w, Sep w L → WC P c Q n l w
def SE (Q : Exit → Act → World → Prop) (e : Exit) (n : Nat) (l : Env) (L : List Fa) : Prop := ∀ w, Sep w L → WE Q e n l w
/-- A region that draws its order, reads and writes. -/
def SD (P : Program) (ops : Array Oper) (Q : Exit → Act → World → Prop) (S : World → Prop) (need : Nat → Bool) (fuel : Nat) (listed : Array Bool) (n : Nat) (l : Env) (L : List Fa) : Prop := ∀ w, Sep w L → WD P ops Q S need fuel listed n l w
/-- A function's contract. -/
def Fn (P : Program) (f : FuncId) (args : Array Value) (L : List Fa) (R : Ending → World → Prop) : Prop := ∀ w, Sep w L → Calls P f args w R
def Ret {α : Type} (φ : α → Prop) (v : α → Value) (H : α → List Fa) : Ending → World → Prop := fun e w => ∃ x, φ x ∧ e = .returned (v x) ∧ Sep w (H x)
def Pan {α : Type} (φ : α → Prop) (c : α → List PanicEntry) (H : α → List Fa) : Ending → World → Prop := fun e w => ∃ x, φ x ∧ e = .panicked (c x) ∧ Sep w (H x)

section
variable {P : Program} {ops : Array Oper} {Q : Exit → Act → World → Prop} {n : Nat} {l : Env} {L L' : List Fa} {rest : List Oper}
theorem fn_enter {f : FuncId} {fn : Func} {c : Code} {args : Array Value} {R : Ending → World → Prop} (hf : P.funcs[f]? = some fn) (hb : fn.body = some c) (N : Nat) (hN : fn.ntmps = N) (ha : args.size ≤ N)
    (l : Env) (hl : ∀ d v, lk l d = some v → args[d]? = some v) (h : SC P c (bodyPost P fn R) N l L) : Fn P f args L R := fun w hw => wc_enter hf hb N hN ha l hl (h w hw)
theorem Fn.sub {f : FuncId} {args : Array Value} {R : Ending → World → Prop} (h : Fn P f args L R) (hs : Sub L' L) : Fn P f args L' R := fun w hw => h w (hw.sub hs)
theorem Fn.mono {f : FuncId} {args : Array Value} {R R' : Ending → World → Prop} (h : Fn P f args L R) (hs : ∀ e w, R e w → R' e w) : Fn P f args L R' := fun w hw => (h w hw).mono hs
/-- A fact without a world, out of the memory. -/
theorem sl_know {φ : Prop} (h : ∀ w, Sep w L → φ) (hk : φ → SL P ops Q rest n l L) : SL P ops Q rest n l L := fun w hw => hk (h w hw) w hw
theorem sc_know {c : Code} {φ : Prop} (h : ∀ w, Sep w L → φ) (hk : φ → SC P c Q n l L) : SC P c Q n l L := fun w hw => hk (h w hw) w hw
theorem fn_know {f : FuncId} {args : Array Value} {R : Ending → World → Prop} {φ : Prop} (h : ∀ w, Sep w L → φ) (hk : φ → Fn P f args L R) : Fn P f args L R := fun w hw => hk (h w hw) w hw
theorem sl_sub (hs : Sub L L') (h : SL P ops Q rest n l L') : SL P ops Q rest n l L := fun w hw => h w (hw.sub hs)
theorem SL.to {w : World} (hw : Sep w L) (h : SL P ops Q rest n l L) : WL P ops Q rest n l w := h w hw
theorem sl_of (h : ∀ w, Sep w L → WL P ops Q rest n l w) : SL P ops Q rest n l L := h

theorem sc_seq {x y : Code} (h : SC P x (Exit.then (fun a w => y.wp P Q a w) Q) n l L) : SC P (.seq x y) Q n l L := fun w hw => wc_seq (h w hw)
theorem sc_skip (h : SE Q .normal n l L) : SC P .skip Q n l L := fun w hw => wc_skip (h w hw)
theorem sc_exit {id : Nat} (h : SE Q (.exit id) n l L) : SC P (.exit id) Q n l L := fun w hw => wc_exit (h w hw)
theorem sc_ret (h : SE Q .ret n l L) : SC P .ret Q n l L := fun w hw => wc_ret (h w hw)
theorem sc_block {id : Nat} {c : Code} (h : SC P c (Exit.inBlock id Q) n l L) : SC P (.block id c) Q n l L := fun w hw => wc_block (h w hw)
theorem sc_if_t {c : Operand} {x y : Code} (hc : ev l c = some (.bool true)) (h : SC P x Q n l L) : SC P (.cond c x y) Q n l L := fun w hw => wc_if_t hc (h w hw)
theorem sc_if_f {c : Operand} {x y : Code} (hc : ev l c = some (.bool false)) (h : SC P y Q n l L) : SC P (.cond c x y) Q n l L := fun w hw => wc_if_f hc (h w hw)
theorem sc_region {id : Nat} {o : List Oper} (h : SL P o.toArray Q o n l L) : SC P (.region id o.toArray false) Q n l L := fun w hw => wc_region (h w hw)
theorem sc_for {α : Type} {c : Code} (E : α → Env) (H : α → List Fa) (R : α → Prop) (m : α → Nat) (k0 : α) (hE : Has l (E k0)) (hH : Sub L (H k0)) (h0 : R k0)
    (round : ∀ k, R k → SC P c (Exit.then (fun a' w' => ∃ k', Sl n (E k') a' ∧ (R k' ∧ Sep w' (H k')) ∧ m k' < m k) Q) n (E k) (H k)) : SC P (.loop c) Q n l L := fun w hw =>
  wc_for E (fun k w => R k ∧ Sep w (H k)) m k0 hE ⟨h0, hw.sub hH⟩ (fun k w h => round k h.1 w h.2)
theorem se_round {α : Type} {E : α → Env} {H : α → List Fa} {R : α → Prop} {m : α → Nat} {M : Nat} (k' : α) (hE : Has l (E k')) (hH : Sub L (H k')) (hR : R k') (hm : m k' < M) :
    SE (Exit.then (fun a' w' => ∃ k', Sl n (E k') a' ∧ (R k' ∧ Sep w' (H k')) ∧ m k' < M) Q) .normal n l L := fun _ hw => WE.mk fun _ hs => ⟨k', hs.sub hE.sub, ⟨hR, hw.sub hH⟩, hm⟩
theorem sc_join {α : Type} {x y : Code} (E : α → Env) (H : α → List Fa) (R : α → Prop) (hx : SC P x (Exit.then (fun a w => ∃ p : α, Sl n (E p) a ∧ R p ∧ Sep w (H p)) Q) n l L) (hy : ∀ p, R p → SC P y Q n (E p) (H p)) : SC P x (Exit.then (fun a w => y.wp P Q a w) Q) n l L := fun w hw =>
  wc_join E (fun k w => R k ∧ Sep w (H k)) (hx w hw) (fun p w' h => hy p h.1 w' h.2)
theorem se_mid {α : Type} {E : α → Env} {H : α → List Fa} {R : α → Prop} (p : α) (hE : Has l (E p)) (hH : Sub L (H p)) (hR : R p) : SE (Exit.then (fun a w => ∃ p : α, Sl n (E p) a ∧ R p ∧ Sep w (H p)) Q) .normal n l L := fun _ hw =>
  we_mid (R := fun k w => R k ∧ Sep w (H k)) p hE ⟨hR, hw.sub hH⟩

theorem se_seq {c : Code} (h : SC P c Q n l L) : SE (Exit.then (fun a w => c.wp P Q a w) Q) .normal n l L := fun w hw => we_seq (h w hw)
theorem se_then_exit {K : Act → World → Prop} {id : Nat} (h : SE Q (.exit id) n l L) : SE (Exit.then K Q) (.exit id) n l L := fun w hw => we_then_exit (h w hw)
theorem se_then_ret {K : Act → World → Prop} (h : SE Q .ret n l L) : SE (Exit.then K Q) .ret n l L := fun w hw => we_then_ret (h w hw)
theorem se_then_panic {K : Act → World → Prop} {c : List PanicEntry} (h : SE Q (.panic c) n l L) : SE (Exit.then K Q) (.panic c) n l L := fun w hw => we_then_panic (h w hw)
theorem se_block {id : Nat} (h : SE Q .normal n l L) : SE (Exit.inBlock id Q) .normal n l L := fun w hw => we_block (h w hw)
theorem se_block_hit {id : Nat} (h : SE Q .normal n l L) : SE (Exit.inBlock id Q) (.exit id) n l L := fun w hw => we_block_hit (h w hw)
theorem se_block_miss {id id' : Nat} (hne : Nat.beq id' id = false) (h : SE Q (.exit id') n l L) : SE (Exit.inBlock id Q) (.exit id') n l L := fun w hw => we_block_miss hne (h w hw)
theorem se_block_ret {id : Nat} (h : SE Q .ret n l L) : SE (Exit.inBlock id Q) .ret n l L := fun w hw => we_block_ret (h w hw)
theorem se_block_panic {id : Nat} {c : List PanicEntry} (h : SE Q (.panic c) n l L) : SE (Exit.inBlock id Q) (.panic c) n l L := fun w hw => we_block_panic (h w hw)
section
variable {fn : Func} {α : Type} {φ : α → Prop} {vv : α → Value} {H : α → List Fa}
theorem se_ret1 {t : Nat} (x : α) (hφ : φ x) (hr : fn.results = #[.tmp t]) (hv : lk l t = some (vv x)) (hs : Sub L (H x)) : SE (bodyPost P fn (Ret φ vv H)) .ret n l L := fun _ hw => we_ret1 hr hv ⟨x, hφ, rfl, hw.sub hs⟩
theorem se_ret2 {t u : Nat} {v1 v2 : Value} (x : α) (hφ : φ x) (hr : fn.results = #[.tmp t, .tmp u]) (hv : lk l t = some v1) (hu : lk l u = some v2) (he : vv x = .tuple #[v1, v2]) (hs : Sub L (H x)) : SE (bodyPost P fn (Ret φ vv H)) .ret n l L := fun _ hw => we_ret2 hr hv hu ⟨x, hφ, by rw [he], hw.sub hs⟩
theorem se_end0 (x : α) (hφ : φ x) (hr : fn.results = #[]) (he : vv x = .tuple #[]) (hs : Sub L (H x)) : SE (bodyPost P fn (Ret φ vv H)) .normal n l L := fun _ hw => we_end0 hr ⟨x, hφ, by rw [he], hw.sub hs⟩
theorem se_panic {c : α → List PanicEntry} (x : α) (hφ : φ x) (hs : Sub L (H x)) : SE (bodyPost P fn (Pan φ c H)) (.panic (c x)) n l L := fun _ hw => we_panic ⟨x, hφ, rfl, hw.sub hs⟩
theorem results_tmp3 {f : Func} {t u v : Nat} (h : f.results = #[.tmp t, .tmp u, .tmp v]) (tmps : Array Value) (P : Program) (w : World) :
    (results f tmps).run P w = .ok (.tuple #[tmps.getD t undef, tmps.getD u undef, tmps.getD v undef]) w := by simp [results, h, go_sem]
theorem se_ret3 {t u v : Nat} {v1 v2 v3 : Value} (x : α) (hφ : φ x) (hr : fn.results = #[.tmp t, .tmp u, .tmp v]) (hv : lk l t = some v1) (hu : lk l u = some v2) (hw3 : lk l v = some v3) (he : vv x = .tuple #[v1, v2, v3]) (hs : Sub L (H x)) : SE (bodyPost P fn (Ret φ vv H)) .ret n l L := fun w hw => WE.mk fun a hs' =>
  bodyPost_ret (results_tmp3 hr _ _ _) hs'.df (by rw [hs'.get hv, hs'.get hu, hs'.get hw3]; exact ⟨x, hφ, by rw [he], hw.sub hs⟩)
end
end

/-! ### Steps -/
section
variable {P : Program} {ops : Array Oper} {Q : Exit → Act → World → Prop} {n : Nat} {l : Env} {L L' L1 : List Fa} {rest : List Oper} {q : Act → Prop}
  {d : Tmp} {op : Op} {ty t t' e : TypeId} {pos : String} {after : Array Edge} {v z : Value} {dst : Option Tmp} {x y : Operand} {g i : Nat} {cs cs' : List Value} {ad : Addr} {A B : Option Addr} {m c size bytes k : Nat} {xs ys cl : List Value}

theorem sl_nil (h : SE Q .normal n l L) : SL P ops Q [] n l L := fun w hw => wl_nil (h w hw)
theorem sl_pu (hr : Pu P (In L) n l op ty v) (hd : Nat.blt d n = true) (h : SL P ops Q rest n ((d, v) :: l) L) : SL P ops Q (⟨some d, op, ty, pos, after, none⟩ :: rest) n l L := fun w hw => wl_pu (by unfold Pu at hr ⊢; exact fun a b c d' e W hs hW => hr a b c d' e W hs (by rw [hW]; exact hw)) hd (h w hw)
theorem sl_yes {j t : Nat} {b : Bool} (hj : (ops[j]?).bind (·.dst) = some t) (ht : lk l t = some (.bool b)) (h : SL P ops Q (⟨dst, op, ty, pos, after, none⟩ :: rest) n l L) : SL P ops Q (⟨dst, op, ty, pos, after, some (j, b)⟩ :: rest) n l L := fun w hw => wl_yes hj ht (h w hw)
theorem sl_no {j t : Nat} {b : Bool} (hj : (ops[j]?).bind (·.dst) = some t) (ht : lk l t = some (.bool (!b))) (hd : Nat.blt d n = true) (h : SL P ops Q rest n ((d, undef) :: l) L) : SL P ops Q (⟨some d, op, ty, pos, after, some (j, b)⟩ :: rest) n l L := fun w hw => wl_no hj ht hd (h w hw)
theorem sl_off {j t : Nat} {b : Bool} (hj : (ops[j]?).bind (·.dst) = some t) (ht : lk l t = some undef) (hd : Nat.blt d n = true) (h : SL P ops Q rest n ((d, undef) :: l) L) : SL P ops Q (⟨some d, op, ty, pos, after, some (j, b)⟩ :: rest) n l L := fun w hw => wl_off hj ht hd (h w hw)
/-! Loads. -/
/-- A part of a list. -/
def Mid (xs : List Value) (o : Nat) (cl : List Value) : Prop := ∀ j v, cl[j]? = some v → xs[o + j]? = some v
theorem Mid.of_append {a b : List Value} {o : Nat} (ho : a.length = o) : Mid (a ++ cl ++ b) o cl := fun j v hj => by
  subst ho
  obtain ⟨hl, _⟩ := List.getElem?_eq_some_iff.1 hj
  rw [List.append_assoc, List.getElem?_append_right (by omega), Nat.add_sub_cancel_left, List.getElem?_append_left hl]
  exact hj
theorem Mid.head {b : List Value} : Mid (cl ++ b) 0 cl := Mid.of_append (a := []) rfl
theorem Mid.all : Mid cl 0 cl := fun j v hj => by simpa using hj
/-- .. of the part of a block that is a struct or an array. -/
theorem pu_lds {td : TypeDesc} (hb : At (blk g t' cs) L) (hx : ev l x = some (.pointer (some ⟨g, i, none⟩))) (hm : Mid cs i cl) (hu : P.underlying t = some td) (hd' : (match td with | .struct _ | .array _ _ => true | _ => false) = true) (hi : szOf P t = some cl.length) : Pu P (In L) n l (.load t x) ty (.agg cl.toArray) :=
  pu_load_agg hx hu hd' hi (fun W hW j v hj => by
    have hb' : Blk W g t' cs.toArray := hW.at hb
    rw [add_none, hb'.cell]
    simpa using hm j v hj)
/-- Out of a slice's elements. -/
theorem pu_ldr (hr : Vw L (fun w => Reads w size (some ad) m xs)) (hm : 0 < m) (hx : ev l x = some (.pointer (some (ad.add i)))) (ht : plainT P t = true) (hi : nth xs i = some v) : Pu P (In L) n l (.load t x) ty v :=
  pu_load hx ht (fun W hW => by
    obtain ⟨ad', h1, h2⟩ := (hr W hW).2 hm
    cases h1
    exact h2 i v (by rw [← nth_eq]; exact hi))
theorem pu_ldrs {td : TypeDesc} (hr : Vw L (fun w => Reads w size (some ad) m xs)) (hm : 0 < m) (hx : ev l x = some (.pointer (some (ad.add i)))) (hc : Mid xs i cl) (hu : P.underlying t = some td) (hd' : (match td with | .struct _ | .array _ _ => true | _ => false) = true) (hi : szOf P t = some cl.length) : Pu P (In L) n l (.load t x) ty (.agg cl.toArray) :=
  pu_load_agg hx hu hd' hi (fun W hW j v hj => by
    obtain ⟨ad', h1, h2⟩ := (hr W hW).2 hm
    cases h1
    rw [add_twice]
    exact h2 _ v (hc j v hj))
/-- string(b). -/
theorem pu_strv {bs : List Int} (hr : Vw L (fun w => Reads w 1 A m (bs.map (Value.int .u8)))) (hx : ev l x = some (.slice A m c)) (ht : P.underlying t = some (.slice e)) (he : P.underlying e = some (.int .u8)) (hd : P.underlying t' = some .string) : Pu P (In L) n l (.convert t t' x) ty (.string (strOfNums bs)) := pu_str hx ht he hd (fun W hW => hr W hW)

/-! Writes. -/
theorem Sep.newBlk {w w' : World} (h : Sep w L) (hF : Fr Nil w w') (hB : Blk w' w.heap.size t cs.toArray) : Sep w' (blk w.heap.size t cs :: L) := h.new hF hB (fun k e => Nat.le_of_eq e.symm)
/-- A value's cells, spelled out. -/
def cellsO : Value → Option (List Value)
  | .agg ⟨l⟩ => some l
  | v => some [v]
theorem cellsO_eq (h : cellsO v = some cs) : v.cells = cs.toArray := by
  unfold cellsO at h
  split at h
  · simp at h
    subst h
    rfl
  · rename_i h2
    simp at h
    subst h
    cases v <;> first | rfl | (rename_i a; exact absurd rfl (h2 a.toList))
theorem sl_new (hr : ∀ w, Ru P n l op ty w (.pointer (some ⟨w.heap.size, 0, none⟩)) (w.alloc (.cells cs.toArray t))) (hd : Nat.blt d n = true) (h : ∀ g, SL P ops Q rest n ((d, .pointer (some ⟨g, 0, none⟩)) :: l) (blk g t cs :: L)) : SL P ops Q (⟨some d, op, ty, pos, after, none⟩ :: rest) n l L := fun w hw =>
  wl_new (hr w) hd (fun w' hF _ hB => h _ w' (hw.newBlk hF hB))
theorem sl_alloc (hz : zeroOf P t = some z) (hc : cellsO z = some cs) (hd : Nat.blt d n = true) (h : ∀ g, SL P ops Q rest n ((d, .pointer (some ⟨g, 0, none⟩)) :: l) (blk g t cs :: L)) : SL P ops Q (⟨some d, .alloc t, ty, pos, after, none⟩ :: rest) n l L := sl_new (fun _ => by rw [← cellsO_eq hc]; exact ru_alloc hz) hd h
theorem sl_box (hx : ev l x = some v) (hc : cellsO v = some cs) (hd : Nat.blt d n = true) (h : ∀ g, SL P ops Q rest n ((d, .pointer (some ⟨g, 0, none⟩)) :: l) (blk g t cs :: L)) : SL P ops Q (⟨some d, .box t x, ty, pos, after, none⟩ :: rest) n l L := sl_new (fun _ => by rw [← cellsO_eq hc]; exact ru_box hx) hd h
/-- One cell of a list turned. -/
inductive SetAt : Nat → Value → List Value → List Value → Prop
  | here {a v : Value} {r : List Value} : SetAt 0 v (a :: r) (v :: r)
  | there {i : Nat} {a v : Value} {r r' : List Value} : SetAt i v r r' → SetAt (i + 1) v (a :: r) (a :: r')
theorem SetAt.eq {i : Nat} {v : Value} {r r' : List Value} (h : SetAt i v r r') : i < r.length ∧ r.set i v = r' := by
  induction h with
  | here => simp
  | there _ ih => exact ⟨by simp; exact ih.1, by simp [ih.2]⟩
theorem SetAt.mk {i : Nat} {v : Value} {r : List Value} (h : i < r.length) : SetAt i v r (r.set i v) := by
  induction r generalizing i with
  | nil => simp at h
  | cons a r ih =>
    cases i with
    | zero => exact .here
    | succ i => exact .there (ih (by simpa using h))
theorem sl_store (hx : ev l x = some (.pointer (some ⟨g, i, none⟩))) (hp : Pick (blk g t' cs) L L') (hy : ev l y = some v) (h1 : v.oneCell' = true) (ht : szOf P t = some 1) (he : SetAt i v cs cs')
    (h : SL P ops Q rest n l (blk g t' cs' :: L')) : SL P ops Q (⟨none, .store t x y, ty, pos, after, none⟩ :: rest) n l L := fun w hw => by
  have h2 := hw.pick hp
  refine wl_store hx hy h1 ht h2.hd (by simpa using he.eq.1) (fun w' hF _ hB => h w' (h2.step hF (fun k _ e => e) ?_ (fun k e => .inl e)))
  have h3 : Blk w' g t' cs'.toArray := by rw [← he.eq.2]; simpa using hB
  exact h3
theorem sl_store_whole {cl : List Value} (hx : ev l x = some (.pointer (some ⟨g, 0, none⟩))) (hp : Pick (blk g t' cs) L L') (hy : ev l y = some (.agg cl.toArray)) (hi : szOf P t = some cl.length) (hc : cs.length = cl.length) (h1 : ∀ v ∈ cl, v.oneCell' = true)
    (h : SL P ops Q rest n l (blk g t' cl :: L')) : SL P ops Q (⟨none, .store t x y, ty, pos, after, none⟩ :: rest) n l L := fun w hw => by
  have h2 := hw.pick hp
  exact wl_store_blk hx hy h2.hd hi (by simp) (by simpa using hc) (by simpa using h1) (fun w' hF _ hB => h w' (h2.step hF (fun k _ e => e) hB (fun k e => .inl e)))

/-! append -/
theorem ownBlock_slice {A : Option Addr} {m c : Nat} : (Value.slice A m c).ownBlock = blockOf A := by cases A <;> rfl
theorem sl_app (hx : ev l x = some (.slice A k c)) (hp : Pick (own e size A k c xs) L L') (hy : ev l y = some (.slice B m i)) (hr : Vw L (fun w => Reads w size B m ys)) (h1 : ∀ u ∈ ys, u.oneCell' = true) (ht : P.underlying t = some (.slice e)) (hi : (P.info? e).map (fun i => (i.zero, i.size, i.bytes)) = some (some z, size, bytes)) (hzs : z.cells.size = size) (hsz : 0 < size)
    (hd : Nat.blt d n = true) (h63 : k + m ≤ maxLen) (hby : (k + m) * bytes ≤ 140737488355328)
    (h : ∀ A' c', SL P ops Q rest n ((d, .slice A' (k + m) c') :: l) (own e size A' (k + m) c' (xs ++ ys) :: L')) : SL P ops Q (⟨some d, .call { callee := .builtin .append, args := #[x, y], argTypes := #[t, t] }, ty, pos, after, none⟩ :: rest) n l L := fun w hw => by
  have h2 := hw.pick hp
  have hO : w.ownsRow 0 e size (.slice A k c) k xs := h2.hd
  refine wl_app hx hy ht hi hzs hsz hd hO (hr w hw) h1 h63 hby (fun A' c' w' hO' hg hat => h A' c' w' ?_)
  refine h2.step (f := own e size A k c xs) ((Fr.refl (fun k => blockOf A = some k) w).grown hg (fun k hk _ => by rw [← ownBlock_slice]; exact hk)) (fun k _ e => e) hO' (fun k hk => ?_)
  have hk' : blockOf A' = some k := hk
  rw [ownBlock_slice, ownBlock_slice, hk'] at hat
  rcases hat with e | e
  · exact .inl e.symm
  · exact .inr (Nat.le_of_eq (Option.some.inj e).symm)
/-- A row is nothing, or begins at its block's beginning. -/
theorem sl_form (hp : At (own e size A m c xs) L) (hm : 0 < m) (h : ∀ g, A = some ⟨g, 0, none⟩ → SL P ops Q rest n l L) : SL P ops Q rest n l L := fun w hw => by
  obtain ⟨g, cap, hv, _, _⟩ := World.ownsRow.form (hw.at hp) hm
  exact h g (by injection hv) w hw
theorem sc_form {cd : Code} (hp : At (own e size A m c xs) L) (hm : 0 < m) (h : ∀ g, A = some ⟨g, 0, none⟩ → SC P cd Q n l L) : SC P cd Q n l L := fun w hw => by
  obtain ⟨g, cap, hv, _, _⟩ := World.ownsRow.form (hw.at hp) hm
  exact h g (by injection hv) w hw
theorem own_len {w : World} (hw : Sep w L) (hp : At (own e size A m c xs) L) : xs.length = m * size ∧ m ≤ c ∧ c ≤ maxLen := ⟨(hw.at hp).1, own_cap (hw.at hp)⟩

/-! Calls -/
section
variable {f : FuncId} {cap : List Value} {zs : List Operand} {vs : List Value} {ats : Array TypeId} {α : Type} {φ : α → Prop} {vv : α → Value} {H : α → List Fa}
theorem sl_call (hx : ev l x = some (.func (.func f) #[] cap.toArray)) (hv : evs l zs = some vs) (hf : callable P f = true) (hd : Nat.blt d n = true) (hs : Sub L L1) (hc : Fn P f (vs ++ cap).toArray L1 (Ret φ vv H))
    (h : ∀ a, φ a → SL P ops Q rest n ((d, vv a) :: l) (H a)) : SL P ops Q (⟨some d, .call { callee := .value x, args := zs.toArray, argTypes := ats }, ty, pos, after, none⟩ :: rest) n l L := fun w hw =>
  wl_call hx hv hf hd (hc w (hw.sub hs)) (fun e w' ⟨a, h1, h2, h3⟩ => ⟨_, h2, h a h1 w' h3⟩)
theorem sl_die {cc : α → List PanicEntry} (hx : ev l x = some (.func (.func f) #[] cap.toArray)) (hv : evs l zs = some vs) (hf : callable P f = true) (hs : Sub L L1) (hc : Fn P f (vs ++ cap).toArray L1 (Pan φ cc H))
    (h : ∀ a, φ a → SE Q (.panic (cc a)) n l (H a)) : SL P ops Q (⟨dst, .call { callee := .value x, args := zs.toArray, argTypes := ats }, ty, pos, after, none⟩ :: rest) n l L := fun w hw =>
  wl_die hx hv hf (hc w (hw.sub hs)) (fun e w' ⟨a, h1, h2, h3⟩ => ⟨_, h2, h a h1 w' h3⟩)
end

/-! A region that draws its order and only reads. -/
theorem sq_region {id : Nat} {o : List Oper} (hm : P.follows .mixedOrders = true) (hB : Region.lexB .any o.toArray = true) (h : WQ P o.toArray (In L) (fun a => ∀ w', In L w' → Q .normal a w') o n l) : SC P (.region id o.toArray true) Q n l L := fun w hw =>
  wc_quiet (In L) hm hB (hw.nil ((Fr.refl Nil w).drew)) h
theorem sq_end (h : SE Q .normal n l L) : WQ P ops (In L) (fun a => ∀ w', In L w' → Q .normal a w') [] n l := wq_nil fun a hs w' hw => (h w' hw).get hs
theorem WQ_call {f : FuncId} {cap : List Value} {zs : List Operand} {vs : List Value} {ats : Array TypeId} {φ : Unit → Prop} {vv : Unit → Value} (hx : ev l x = some (.func (.func f) #[] cap.toArray)) (hv : evs l zs = some vs) (hf : callable P f = true) (hd : Nat.blt d n = true)
    (hc : Fn P f (vs ++ cap).toArray L (Ret φ vv (fun _ => L))) (h : WQ P ops (In L) q rest n ((d, vv ()) :: l)) : WQ P ops (In L) q (⟨some d, .call { callee := .value x, args := zs.toArray, argTypes := ats }, ty, pos, after, none⟩ :: rest) n l :=
  wq_call (vv ()) hx hv hf hd (fun W hW => (hc W hW).mono fun e w' ⟨a, _, h2, h3⟩ => ⟨h2, h3⟩) h

/-! One that draws it, calls and writes: S is what holds all the while. -/
def All (L0 : List Fa) (w : World) : Prop := ∀ f ∈ L0, f.P w
theorem Sep.all {w : World} (h : Sep w L) (hs : ∀ f ∈ L1, f ∈ L) : All L1 w := fun f hf => h.mem (hs f hf)
variable {S : World → Prop} {need : Nat → Bool} {fuel : Nat} {listed : Array Bool}
theorem sd_drawn {id : Nat} {o : List Oper} (S : World → Prop) (need : Nat → Bool) (hm : P.follows .mixedOrders = true) (N : Nat) (hN : o.length = N) (h : SD P o.toArray Q S need N (Array.replicate N false) n l L) : SC P (.region id o.toArray true) Q n l L := fun w hw =>
  wc_drawn S need hm N hN (h _ (hw.nil ((Fr.refl Nil w).drew)))
theorem sd_take (i : Nat) (hi : ops[i]? = some ⟨some d, op, ty, pos, after, none⟩) (hB : (Region.noSelect ops && Region.free .any ops listed i && (Region.ready .any ops listed).contains i && needOk .any ops need i) = true)
    (hQ : NoP Q) (hr : Pu P S n l op ty v) (hd : Nat.blt d n = true) (hS : ∀ w, Sep w L → S w) (h : SD P ops Q S need fuel (listed.setIfInBounds i true) n ((d, v) :: l) L) : SD P ops Q S need (fuel + 1) listed n l L := fun w hw =>
  wd_take i hi hB hQ hr hd (hS w hw) (h w hw)
theorem sd_pu (i : Nat) (hr : Region.ready .any ops listed = [i]) (ho : ops[i]? = some ⟨some d, op, ty, pos, after, none⟩) (hru : Pu P (In L) n l op ty v) (hd : Nat.blt d n = true) (hS : need i = true → ∀ w, Sep w L → S w)
    (h : SD P ops Q S need fuel (listed.setIfInBounds i true) n ((d, v) :: l) L) : SD P ops Q S need (fuel + 1) listed n l L := fun w hw =>
  wd_pu i hr ho (by unfold Pu at hru ⊢; exact fun a b c d' e W hs hW => hru a b c d' e W hs (by rw [hW]; exact hw)) hd (fun e => hS e w hw) (h w hw)
theorem sd_call (i : Nat) {f : FuncId} {cap : List Value} {zs : List Operand} {vs : List Value} {ats : Array TypeId} {α : Type} {φ : α → Prop} {vv : α → Value} {H : α → List Fa} (hr : Region.ready .any ops listed = [i]) (ho : ops[i]? = some ⟨some d, .call { callee := .value x, args := zs.toArray, argTypes := ats }, ty, pos, after, none⟩)
    (hx : ev l x = some (.func (.func f) #[] cap.toArray)) (hv : evs l zs = some vs) (hf : callable P f = true) (hd : Nat.blt d n = true) (hs : Sub L L1) (hc : Fn P f (vs ++ cap).toArray L1 (Ret φ vv H)) (hS : need i = true → ∀ a w, Sep w (H a) → S w)
    (h : ∀ a, φ a → SD P ops Q S need fuel (listed.setIfInBounds i true) n ((d, vv a) :: l) (H a)) : SD P ops Q S need (fuel + 1) listed n l L := fun w hw =>
  wd_call i hr ho hx hv hf hd (hc w (hw.sub hs)) (fun e w' ⟨a, h1, h2, h3⟩ => ⟨_, h2, fun e => hS e a w' h3, h a h1 w' h3⟩)
def SA (P : Program) (ops : Array Oper) (Q : Exit → Act → World → Prop) (S : World → Prop) (need : Nat → Bool) (fuel : Nat) (listed : Array Bool) (n : Nat) (l : Env) (L : List Fa) (i : Nat) : Prop := ∀ w, Sep w L → WA P ops Q S need fuel listed n l w i
theorem sd_two (i j : Nat) (hr : Region.ready .any ops listed = [i, j]) (hi : SA P ops Q S need fuel listed n l L i) (hj : SA P ops Q S need fuel listed n l L j) : SD P ops Q S need (fuel + 1) listed n l L := fun w hw => wd_two i j hr (hi w hw) (hj w hw)
theorem sd_done (hr : Region.ready .any ops listed = []) (h : SE Q .normal n l L) : SD P ops Q S need fuel listed n l L := fun w hw => wd_done hr (h w hw)
end
/-- All of some facts, be they apart or not. -/
def AllP (w : World) : List Fa → Prop
  | [] => True
  | f :: r => f.P w ∧ AllP w r
theorem AllP.nil {w : World} : AllP w [] := trivial
theorem AllP.cons {w : World} {f : Fa} {r : List Fa} (h : f.P w) (hr : AllP w r) : AllP w (f :: r) := ⟨h, hr⟩
theorem AllP.at {w : World} {f : Fa} : ∀ {r : List Fa}, AllP w r → At f r → f.P w := fun {r} h ha => by
  induction ha with
  | here => exact h.1
  | there _ ih => exact ih h.2
section
variable {P : Program} {n : Nat} {l : Env} {L0 : List Fa} {t t' ty : TypeId} {x : Operand} {g i : Nat} {cs cl : List Value} {v : Value}
end
theorem se_of {Q : Exit → Act → World → Prop} {e : Exit} {n : Nat} {l : Env} {L : List Fa} (h : ∀ w, Sep w L → WE Q e n l w) : SE Q e n l L := h
theorem SA.to {P : Program} {ops : Array Oper} {Q : Exit → Act → World → Prop} {S : World → Prop} {need : Nat → Bool} {fuel : Nat} {listed : Array Bool} {n : Nat} {l : Env} {L : List Fa} {w : World} {i : Nat} (hw : Sep w L) (h : SA P ops Q S need fuel listed n l L i) : WA P ops Q S need fuel listed n l w i := h w hw
theorem sa_of {P : Program} {ops : Array Oper} {Q : Exit → Act → World → Prop} {S : World → Prop} {need : Nat → Bool} {fuel : Nat} {listed : Array Bool} {n : Nat} {l : Env} {L : List Fa} {i : Nat} (h : ∀ w, Sep w L → WA P ops Q S need fuel listed n l w i) : SA P ops Q S need fuel listed n l L i := h
theorem sep_one {f : Fa} {w : World} (h : f.P w) : Sep w [f] := ⟨h, (fun _ hx => by cases hx), trivial⟩
theorem SD.to {P : Program} {ops : Array Oper} {Q : Exit → Act → World → Prop} {S : World → Prop} {need : Nat → Bool} {fuel : Nat} {listed : Array Bool} {n : Nat} {l : Env} {L : List Fa} {w : World} (hw : Sep w L) (h : SD P ops Q S need fuel listed n l L) : WD P ops Q S need fuel listed n l w := h w hw
theorem sd_of {P : Program} {ops : Array Oper} {Q : Exit → Act → World → Prop} {S : World → Prop} {need : Nat → Bool} {fuel : Nat} {listed : Array Bool} {n : Nat} {l : Env} {L : List Fa} (h : ∀ w, Sep w L → WD P ops Q S need fuel listed n l w) : SD P ops Q S need fuel listed n l L := h
/-- A law's contract, as its row asks for it. -/
theorem Fn.top {P : Program} {f : FuncId} {args : Array Value} {w : World} (h : Fn P f args [old w] (Ret (fun _ : Unit => True) (fun _ => .bool true) (fun _ => [old w]))) : Calls P f args w fun e w' => e = .returned (.bool true) ∧ Fr Nil w w' :=
  (h w (Sep.start w)).mono fun _ _ ⟨_, _, h2, h3⟩ => ⟨h2, h3.at .here⟩
attribute [irreducible] Sep SL SC SE SD SA Fn blk own old ice star

end Go.Proofs.YtocaabnbmcpjmaaGreatDoor
/- More steps of the walk over facts: copy within a row, rows of like elements, make, comparisons with nil. No program is in sight. -/
namespace Go.Proofs.YtocaabnbmcpjmaaGreatDoor
open Go.RowKit

section
variable {P : Program} {C : World → Prop} {n : Nat} {l : Env} {ty t t' : TypeId} {x y : Operand} {v : Value} {k k' : IntKind} {p q : Int} {A : Option Addr} {m c : Nat} {ad : Addr}
theorem pu_nilCheck (hx : ev l x = some (.pointer (some ad))) : Pu P C n l (.nilCheck x) ty (.pointer (some ad)) := by
  unfold Pu
  intro a _ _ _ _ W hs _
  simp [execOp, hs.ev hx]
theorem pu_ptr_some_eql {e : TypeId} (hx : ev l x = some (.pointer (some ad))) (hy : ev l y = some (.pointer none)) (ht : P.underlying t = some (.pointer e)) : Pu P C n l (.binOp .eql t x y t') ty (.bool false) := by
  unfold Pu
  intro a _ _ _ _ W hs _
  have hp : P.underlying t = some (.pointer (P.pointee t)) := by simp [Program.pointee, ht]
  simp only [execOp, hs.ev hx, hs.ev hy]
  rw [Sem.run_bind, Sem.run_bind]
  simp [go_sem, run_eql_pointer_nil W t _ hp]
theorem pu_ptr_none_eql {e : TypeId} (hx : ev l x = some (.pointer none)) (hy : ev l y = some (.pointer none)) (ht : P.underlying t = some (.pointer e)) : Pu P C n l (.binOp .eql t x y t') ty (.bool true) := by
  unfold Pu
  intro a _ _ _ _ W hs _
  have hp : P.underlying t = some (.pointer (P.pointee t)) := by simp [Program.pointee, ht]
  simp only [execOp, hs.ev hx, hs.ev hy]
  rw [Sem.run_bind, Sem.run_bind]
  simp [go_sem, run_eql_pointer_nil W t _ hp]
theorem pu_ptr_some_neq {e : TypeId} (hx : ev l x = some (.pointer (some ad))) (hy : ev l y = some (.pointer none)) (ht : P.underlying t = some (.pointer e)) : Pu P C n l (.binOp .neq t x y t') ty (.bool true) := by
  unfold Pu
  intro a _ _ _ _ W hs _
  have hp : P.underlying t = some (.pointer (P.pointee t)) := by simp [Program.pointee, ht]
  simp only [execOp, hs.ev hx, hs.ev hy]
  rw [Sem.run_bind, Sem.run_bind]
  simp [go_sem, run_neq_pointer_nil W t _ hp]
theorem pu_ptr_none_neq {e : TypeId} (hx : ev l x = some (.pointer none)) (hy : ev l y = some (.pointer none)) (ht : P.underlying t = some (.pointer e)) : Pu P C n l (.binOp .neq t x y t') ty (.bool false) := by
  unfold Pu
  intro a _ _ _ _ W hs _
  have hp : P.underlying t = some (.pointer (P.pointee t)) := by simp [Program.pointee, ht]
  simp only [execOp, hs.ev hx, hs.ev hy]
  rw [Sem.run_bind, Sem.run_bind]
  simp [go_sem, run_neq_pointer_nil W t _ hp]
theorem pu_slice_some_eql {e : TypeId} (hx : ev l x = some (.slice (some ad) m c)) (hy : ev l y = some (.slice none 0 0)) (ht : P.underlying t = some (.slice e)) : Pu P C n l (.binOp .eql t x y t') ty (.bool false) := by
  unfold Pu
  intro a _ _ _ _ W hs _
  simp only [execOp, hs.ev hx, hs.ev hy]
  rw [Sem.run_bind, Sem.run_bind]
  simp [go_sem, Lib.run_eql_slice_nil W t e _ _ _ _ _ ht]
theorem pu_slice_none_eql {e : TypeId} (hx : ev l x = some (.slice none m c)) (hy : ev l y = some (.slice none 0 0)) (ht : P.underlying t = some (.slice e)) : Pu P C n l (.binOp .eql t x y t') ty (.bool true) := by
  unfold Pu
  intro a _ _ _ _ W hs _
  simp only [execOp, hs.ev hx, hs.ev hy]
  rw [Sem.run_bind, Sem.run_bind]
  simp [go_sem, Lib.run_eql_slice_nil W t e _ _ _ _ _ ht]
theorem pu_slice_some_neq {e : TypeId} (hx : ev l x = some (.slice (some ad) m c)) (hy : ev l y = some (.slice none 0 0)) (ht : P.underlying t = some (.slice e)) : Pu P C n l (.binOp .neq t x y t') ty (.bool true) := by
  unfold Pu
  intro a _ _ _ _ W hs _
  simp only [execOp, hs.ev hx, hs.ev hy]
  rw [Sem.run_bind, Sem.run_bind]
  simp [go_sem, run_neq_slice_nil_any W t e _ _ _ _ _ ht]
theorem pu_slice_none_neq {e : TypeId} (hx : ev l x = some (.slice none m c)) (hy : ev l y = some (.slice none 0 0)) (ht : P.underlying t = some (.slice e)) : Pu P C n l (.binOp .neq t x y t') ty (.bool false) := by
  unfold Pu
  intro a _ _ _ _ W hs _
  simp only [execOp, hs.ev hx, hs.ev hy]
  rw [Sem.run_bind, Sem.run_bind]
  simp [go_sem, run_neq_slice_nil_any W t e _ _ _ _ _ ht]
theorem pu_eql_d (hx : ev l x = some (.int k p)) (hy : ev l y = some (.int k q)) : Pu P C n l (.binOp .eql t x y t') ty (.bool (decide (p = q))) := by
  have h := pu_eql (P := P) (C := C) (n := n) (ty := ty) (t := t) (t' := t') hx hy
  have e : decide (p = q) = (p == q) := by by_cases h : p = q <;> simp [h]
  rw [e]
  exact h
theorem pu_neq_d (hx : ev l x = some (.int k p)) (hy : ev l y = some (.int k q)) : Pu P C n l (.binOp .neq t x y t') ty (.bool (!decide (p = q))) := by
  have h := pu_neq (P := P) (C := C) (n := n) (ty := ty) (t := t) (t' := t') hx hy
  have e : (!decide (p = q)) = (p != q) := by by_cases h : p = q <;> simp [h, bne]
  rw [e]
  exact h
theorem pu_shr (hx : ev l x = some (.int k p)) (hy : ev l y = some (.int k' q)) (h0 : 0 ≤ q) (h1 : q ≤ k.bits) : Pu P C n l (.binOp .shr t x y t') ty (.int k (p / 2 ^ q.toNat)) := by
  unfold Pu
  intro a _ _ _ _ W hs _
  simp only [execOp, hs.ev hx, hs.ev hy, eqGuard_shr, binOp_shr, shift_shr k k' p q h0 h1]
  rfl
theorem pu_shr_1 (hx : ev l x = some (.int k p)) (hy : ev l y = some (.int k' 1)) (h1 : (1 : Int) ≤ k.bits) : Pu P C n l (.binOp .shr t x y t') ty (.int k (p / 2)) := by
  have := pu_shr (P := P) (C := C) (n := n) (ty := ty) (t := t) (t' := t') hx hy (by omega) h1
  simpa using this
theorem pu_shr_4 (hx : ev l x = some (.int k p)) (hy : ev l y = some (.int k' 4)) (h1 : (4 : Int) ≤ k.bits) : Pu P C n l (.binOp .shr t x y t') ty (.int k (p / 16)) := by
  have := pu_shr (P := P) (C := C) (n := n) (ty := ty) (t := t) (t' := t') hx hy (by omega) h1
  simpa using this
theorem pu_cap {e : TypeId} (hx : ev l x = some (.slice A m c)) (ht : P.underlying t = some (.slice e)) : Pu P C n l (.call { callee := .builtin .cap, args := #[x], argTypes := #[t] }) ty (.int .i64 c) := by
  unfold Pu
  intro a _ _ _ _ W hs _
  simp only [execOp, resolve, List.map_toArray, List.map_cons, List.map_nil, hs.ev hx]
  simp [invoke, builtin, Builtin.cap_, run_underlying ht]
  rfl
end

/-! Rows of like elements. -/
def rows {X : Type} (C : X → List Value) (ss : List X) : List Value := ss.flatMap C
section
variable {X : Type} {C : X → List Value} {sz : Nat}
theorem rows_len (hC : ∀ s, (C s).length = sz) : ∀ (ss : List X), (rows C ss).length = ss.length * sz
  | [] => by simp [rows]
  | s :: r => by
    have ih := rows_len hC r
    unfold rows at ih ⊢
    rw [List.flatMap_cons, List.length_append, hC, ih, List.length_cons, Nat.succ_mul]
    omega
theorem rows_cons (s : X) (r : List X) : rows C (s :: r) = C s ++ rows C r := rfl
theorem rows_app (a b : List X) : rows C (a ++ b) = rows C a ++ rows C b := by simp [rows]
theorem rows_mid (hC : ∀ s, (C s).length = sz) {ss : List X} {i : Nat} {s : X} (hs : ss[i]? = some s) : Mid (rows C ss) (i * sz) (C s) := by
  obtain ⟨hl, rfl⟩ := List.getElem?_eq_some_iff.1 hs
  have h : ss = ss.take i ++ ss[i] :: ss.drop (i + 1) := by rw [← List.drop_eq_getElem_cons hl, List.take_append_drop]
  have h2 : rows C ss = rows C (ss.take i) ++ C ss[i] ++ rows C (ss.drop (i + 1)) := by
    conv => lhs; rw [h]
    rw [rows_app, rows_cons, List.append_assoc]
  rw [h2]
  exact Mid.of_append (by rw [rows_len hC, List.length_take, Nat.min_eq_left (Nat.le_of_lt hl)])
end

theorem vw_form {L : List Fa} {size n : Nat} {A : Option Addr} {xs : List Value} (hr : Vw L (fun w => Reads w size A n xs)) (hn : 0 < n) : ∀ w, Sep w L → ∃ ad, A = some ad := fun w hw => by
  obtain ⟨ad, h, _⟩ := (hr w hw).2 hn
  exact ⟨ad, h⟩

theorem blk_at {w : World} {L : List Fa} {g : Nat} {t : TypeId} {cs : List Value} (hw : Sep w L) (h : At (blk g t cs) L) : Blk w g t cs.toArray := by
  have := hw.at h
  unfold blk at this
  exact this
/-! copy -/
theorem run_copy_rows {P : Program} (w : World) (dT sT ty elem : TypeId) (g o dLen dCap : Nat) (a : Addr) (sLen sCap size : Nat) (cur : Array Value) (t : TypeId) (cs : List Value)
    (hu : P.underlying dT = some (.slice elem)) (hs : szOf P elem = some size)
    (hg : w.heap[g]? = some (.cells cur t (0, 0))) (hn : cs.length = Nat.min sLen dLen * size)
    (hsrc : ∀ j v, cs[j]? = some v → w.cell? (a.add j) = some v) (hfit : o + cs.length ≤ cur.size) (h1 : ∀ v ∈ cs, v.oneCell' = true) :
    (Builtin.copy_ #[dT, sT] ty #[.slice (some ⟨g, o, none⟩) dLen dCap, .slice (some a) sLen sCap]).run P w =
      .ok (goInt (Nat.min sLen dLen)) (w.setRow g (cur.toList.take o ++ cs ++ cur.toList.drop (o + cs.length)).toArray) := by
  have hl := run_loadCells_list (P := P) w a cs hsrc
  have hst := run_storeCells_at P g o t cs 0 cur w hg (by simpa using hfit) h1
  have hsz := run_size (P := P) hs
  simp [Builtin.copy_, run_underlying hu, Builtin.lenOf, Builtin.firstCells, hsz, ← hn, hl, hst]

section
variable {P : Program} {ops : Array Oper} {Q : Exit → Act → World → Prop} {n : Nat} {l : Env} {L L' : List Fa} {rest : List Oper} {d : Tmp} {dst : Option Tmp} {ty t t' e : TypeId} {pos : String} {after : Array Edge} {x y : Operand} {g o c dLen dCap sLen sCap size k kk m bytes : Nat} {A B : Option Addr} {a : Addr} {xs cs : List Value} {z : Value}
theorem setRow_size (w : World) (g : Nat) (cs : Array Value) : (w.setRow g cs).heap.size = w.heap.size := by simp [World.setRow]
theorem setRow_fr (w : World) (g : Nat) (cs : Array Value) : Fr (fun k => k = g) w (w.setRow g cs) := by
  exact ⟨rfl, rfl, rfl, Nat.le_of_eq (setRow_size w g cs).symm, fun k _ hn => setRow_other w g k cs hn⟩
/-- What a copy into an owned row leaves. -/
theorem sep_copy {w : World} (hw : Sep w L) (hp : Pick (own e size (some ⟨g, 0, none⟩) k c xs) L L') (hsz : szOf P e = some size) (ht : P.underlying t = some (.slice e)) (hk : min sLen dLen = kk) (hn : cs.length = kk * size) (hr : ∀ w, Sep w L → ∀ j v, cs[j]? = some v → w.cell? (a.add j) = some v) (hfit : o + cs.length ≤ k * size) (h1 : ∀ v ∈ cs, v.oneCell' = true) :
    ∃ w', (Builtin.copy_ #[t, t'] ty #[.slice (some ⟨g, o, none⟩) dLen dCap, .slice (some a) sLen sCap]).run P w = .ok (goInt kk) w' ∧ Sep w' (own e size (some ⟨g, 0, none⟩) k c (xs.take o ++ cs ++ xs.drop (o + cs.length)) :: L') := by
  subst hk
  have h2 := hw.pick hp
  have hO : w.ownsRow 0 e size (.slice (some ⟨g, 0, none⟩) k c) k xs := by
    have := h2.hd
    unfold own at this
    exact this
  obtain ⟨hxl, h⟩ := hO
  rcases h with ⟨h, _⟩ | ⟨g', cap, cur, hv, hb, hh, hkc, hcm, hcs, htk⟩
  · cases h
  injection hv with hA hk hc
  injection hA with hA
  injection hA with hg
  subst hg hc
  have hks : k * size ≤ c * size := Nat.mul_le_mul_right _ hkc
  refine ⟨_, run_copy_rows w t t' ty e g o dLen dCap a sLen sCap size cur e cs ht hsz hh hn (hr w hw) (by omega) h1, ?_⟩
  refine h2.step (setRow_fr w g _) (fun j _ e => by unfold own; exact congrArg some e.symm) ?_ (fun j hj => .inl (by unfold own at hj ⊢; exact hj))
  have hxc : xs.length ≤ cur.toList.length := by rw [← htk, List.length_take]; omega
  have hre : w.setRow g (cur.toList.take o ++ cs ++ cur.toList.drop (o + cs.length)).toArray = w.setRow g (cur.toList.take o ++ cs ++ cur.toList.drop (o + cs.length)).toArray := rfl
  have hP : (w.setRow g (cur.toList.take o ++ cs ++ cur.toList.drop (o + cs.length)).toArray).ownsRow 0 e size (.slice (some ⟨g, 0, none⟩) k c) k (xs.take o ++ cs ++ xs.drop (o + cs.length)) := by
    refine ⟨by simp; omega, .inr ⟨g, c, _, rfl, Nat.zero_le _, setRow_heap w g cur _ e (0, 0) hh, hkc, hcm, by simp; omega, ?_⟩⟩
    have e1 : (cur.toList.take o) = xs.take o := by rw [← htk, List.take_take, Nat.min_eq_left (by omega)]
    have e2 : xs.drop (o + cs.length) = (cur.toList.drop (o + cs.length)).take (k * size - (o + cs.length)) := by rw [← htk, List.drop_take]
    rw [List.toList_toArray, e2, ← e1, List.take_append, List.take_of_length_le (by simp; omega)]
    congr 1
    simp
    congr 1
    omega
  unfold own
  exact hP
theorem sl_copy0 (hx : ev l x = some (.slice (some ⟨g, o, none⟩) dLen dCap)) (hp : Pick (own e size (some ⟨g, 0, none⟩) k c xs) L L') (hy : ev l y = some (.slice (some a) sLen sCap)) (hsz : szOf P e = some size) (ht : P.underlying t = some (.slice e)) (hk : min sLen dLen = kk) (hn : cs.length = kk * size)
    (hr : ∀ w, Sep w L → ∀ j v, cs[j]? = some v → w.cell? (a.add j) = some v) (hfit : o + cs.length ≤ k * size) (h1 : ∀ v ∈ cs, v.oneCell' = true) (hd : (match dst with | some d => Nat.blt d n | none => true) = true)
    (h : SL P ops Q rest n (match dst with | some d => (d, goInt kk) :: l | none => l) (own e size (some ⟨g, 0, none⟩) k c (xs.take o ++ cs ++ xs.drop (o + cs.length)) :: L')) :
    SL P ops Q (⟨dst, .call { callee := .builtin .copy, args := #[x, y], argTypes := #[t, t'] }, ty, pos, after, none⟩ :: rest) n l L := sl_of fun w hw => WL.mk fun a' hs => by
  obtain ⟨w', hr', hw'⟩ := sep_copy (P := P) (ty := ty) (t' := t') (dCap := dCap) (sCap := sCap) hw hp hsz ht hk hn hr hfit h1
  refine wpList_plain rfl fun K hK => ?_
  unfold Oper.wp
  simp only [execOp, resolve, List.map_toArray, List.map_cons, List.map_nil, hs.ev hx, hs.ev hy]
  simp only [invoke, builtin, Sem.run_bind, Sem.run_pure, Result.andThen_ok, hr']
  cases dst with
  | none => exact hK _ _ ((h.to hw').get hs)
  | some d => exact hK _ _ ((h.to hw').get (hs.put hd _))

theorem own_cells (hp : At (own e size (some ⟨g, 0, none⟩) k c xs) L) (hm : Mid xs o cs) (hk : 0 < k) : ∀ w, Sep w L → ∀ j v, cs[j]? = some v → w.cell? ((⟨g, o, none⟩ : Addr).add j) = some v := fun w hw j v hj => by
  have hO : w.ownsRow 0 e size (.slice (some ⟨g, 0, none⟩) k c) k xs := by
    have := hw.at hp
    unfold own at this
    exact this
  obtain ⟨ad, h1, h2⟩ := (Reads.of_own hO).2 hk
  cases h1
  have h3 := h2 _ v (hm j v hj)
  rw [add_none] at h3 ⊢
  rwa [Nat.zero_add] at h3
/-- A row's front alone. -/
theorem sep_less {w : World} (hw : Sep w L) (hp : Pick (own e size A k c xs) L L') (hm : m ≤ k) : Sep w (own e size A m c (xs.take (m * size)) :: L') := by
  have h2 := hw.pick hp
  have hO : w.ownsRow 0 e size (.slice A k c) k xs := by
    have := h2.hd
    unfold own at this
    exact this
  obtain ⟨hxl, h⟩ := hO
  have hmk : m * size ≤ k * size := Nat.mul_le_mul_right _ hm
  refine h2.step (Fr.refl Nil w) (fun _ _ e => e.elim) ?_ (fun j hj => .inl (by unfold own at hj ⊢; exact hj))
  have hP : w.ownsRow 0 e size (.slice A m c) m (xs.take (m * size)) := by
    rcases h with ⟨h, h0⟩ | ⟨g', cap, cur, hv, hb, hh, hkc, hcm, hcs, htk⟩
    · injection h with h3 h4 h5
      subst h3 h4 h5
      obtain rfl : m = 0 := by omega
      exact ⟨by simp, .inl ⟨rfl, rfl⟩⟩
    · injection hv with hA hk hc'
      subst hA hc'
      exact ⟨by rw [List.length_take]; omega, .inr ⟨g', c, cur, rfl, hb, hh, by omega, hcm, hcs, by rw [← htk, List.take_take, Nat.min_eq_left (by omega)]⟩⟩
  unfold own
  exact hP
/-- A literal of elements. -/
theorem sl_build {parts : List (Nat × Operand)} {ps : List (Nat × Value)} {cells : List Value} (hp : evp l parts = some ps) (hrun : ∀ W, (Instr.buildSlice t k ps.toArray).run P W = .ok (.slice (some ⟨W.heap.size, 0, none⟩) k k) (W.alloc (.cells cells.toArray e))) (hsz : cells.length = k * size) (hk : k ≤ maxLen) (hd : Nat.blt d n = true)
    (h : ∀ g, SL P ops Q rest n ((d, .slice (some ⟨g, 0, none⟩) k k) :: l) (own e size (some ⟨g, 0, none⟩) k k cells :: L)) : SL P ops Q (⟨some d, .buildSlice t k parts.toArray, ty, pos, after, none⟩ :: rest) n l L := sl_of fun w hw =>
  wl_new (ru_buildSlice hp hrun) hd fun w' hF hS hB => (h w.heap.size).to (hw.new hF (by
    have hP : w'.ownsRow 0 e size (.slice (some ⟨w.heap.size, 0, none⟩) k k) k cells := ⟨hsz, .inr ⟨_, _, _, rfl, Nat.zero_le _, hB, Nat.le_refl _, hk, by simpa using hsz, by rw [List.toList_toArray, ← hsz, List.take_length]⟩⟩
    unfold own
    exact hP) (fun j hj => by
    unfold own at hj
    have hj' : some w.heap.size = some j := hj
    exact Nat.le_of_eq (Option.some.inj hj')))
/-- []T{}. -/
theorem sl_build0 (ht : P.underlying t = some (.slice e)) (hrun : ∀ W, (Instr.buildSlice t 0 #[]).run P W = .ok (.slice (some ⟨W.heap.size, 0, none⟩) 0 0) (W.alloc (.cells #[] e))) (hd : Nat.blt d n = true)
    (h : ∀ g, SL P ops Q rest n ((d, .slice (some ⟨g, 0, none⟩) 0 0) :: l) (own e size (some ⟨g, 0, none⟩) 0 0 [] :: L)) : SL P ops Q (⟨some d, .buildSlice t 0 #[], ty, pos, after, none⟩ :: rest) n l L :=
  sl_build (parts := []) (ps := []) (cells := []) rfl hrun (by simp) (by simp [maxLen]) hd h
/-- make. -/
theorem sl_make {i : TypeInfo} {kl kc : IntKind} {lo : Operand} (hx : ev l x = some (.int kl k)) (hy : ev l y = some (.int kc c)) (ht : P.underlying t = some (.slice e)) (hi : (P.info? e).map (fun i => (i.zero, i.size, i.bytes)) = some (some z, size, bytes)) (hkc : k ≤ c) (hby : bytes * c ≤ 281474976710656) (hcm : c ≤ maxLen) (hd : Nat.blt d n = true)
    (h : ∀ g, SL P ops Q rest n ((d, .slice (some ⟨g, 0, none⟩) k c) :: l) (own e size (some ⟨g, 0, none⟩) k c ((madeCells z.cells (c * size)).toList.take (k * size)) :: L)) : SL P ops Q (⟨some d, .makeSlice t x y, ty, pos, after, none⟩ :: rest) n l L := sl_of fun w hw => by
  obtain ⟨i, hi0, hz0, hz1, hz2⟩ := info_parts hi
  subst hz1 hz2
  have hb' : (i.bytes : Int) * (c : Int) ≤ 281474976710656 := by
    have h : ((i.bytes * c : Nat) : Int) ≤ 281474976710656 := by omega
    rwa [Int.natCast_mul] at h
  have h63 : (c : Int) ≤ 9223372036854775807 := by
    have h := hcm
    simp [maxLen] at h
    omega
  refine wl_new (v := .slice (some ⟨w.heap.size, 0, none⟩) k c) (cs := madeCells z.cells (c * i.size)) (t := e) (by
    unfold Ru
    intro a _ _ _ _ hs
    have hr := run_make (P := P) w t e i z ht hi0 hz0 kl kc k c (by omega) (by omega) hb' h63
    simp only [Int.toNat_natCast] at hr
    simp only [execOp, hs.ev hx, hs.ev hy]
    simp [hr]) hd fun w' hF hS hB => (h w.heap.size).to (hw.new hF (by
    have hP : w'.ownsRow 0 e i.size (.slice (some ⟨w.heap.size, 0, none⟩) k c) k ((madeCells z.cells (c * i.size)).toList.take (k * i.size)) := ⟨by
      have h1 := Nat.mul_le_mul_right i.size hkc
      rw [List.length_take, Array.length_toList, size_madeCells, Nat.min_eq_left h1], .inr ⟨_, _, _, rfl, Nat.zero_le _, hB, hkc, hcm, size_madeCells _ _, rfl⟩⟩
    unfold own
    exact hP) (fun j hj => by
    unfold own at hj
    have hj' : some w.heap.size = some j := hj
    exact Nat.le_of_eq (Option.some.inj hj')))
theorem se_ret_ct {fn : Func} {α : Type} {φ : α → Prop} {vv : α → Value} {H : α → List Fa} {tp u : Nat} {v2 : Value} {td : TypeDesc} {csx : List Value} (x : α) (hφ : φ x) (hr : fn.results = #[.cell tp ty, .tmp u]) (hv : lk l tp = some (.pointer (some ⟨g, 0, none⟩))) (hb : At (blk g t' csx) L) (hu : P.underlying ty = some td) (hd' : (match td with | .struct _ | .array _ _ => true | _ => false) = true) (hi : szOf P ty = some csx.length)
    (hw2 : lk l u = some v2) (he : vv x = .tuple #[.agg csx.toArray, v2]) (hs : Sub L (H x)) : SE (bodyPost P fn (Ret φ vv H)) .ret n l L := se_of fun w hw => WE.mk fun a hs' => by
  refine bodyPost_ret (v := vv x) ?_ hs'.df ⟨x, hφ, rfl, hw.sub hs⟩
  rw [results_cell_tmp hr, hs'.get hv, hs'.get hw2, he]
  have hB : Blk w g t' csx.toArray := by
    have := hw.at hb
    unfold blk at this
    exact this
  have hl := run_loadVar_at (P := P) w ⟨g, 0, none⟩ ty csx td (fun j v hj => by
    rw [add_none, Nat.zero_add, hB.cell]
    simpa using hj) hu hd' (by rw [← szOf_eq]; exact hi)
  simp [asAddr, hl]
end

end Go.Proofs.YtocaabnbmcpjmaaGreatDoor
/- append of zeros where there is no room; whether two rows overlap. No program is in sight. -/
namespace Go.Proofs.YtocaabnbmcpjmaaGreatDoor
open Go.RowKit
section
variable {P : Program} {ops : Array Oper} {Q : Exit → Act → World → Prop} {n : Nat} {l : Env} {L L' : List Fa} {rest : List Oper} {d : Tmp} {ty t t' e : TypeId} {pos : String} {after : Array Edge} {x y : Operand} {c size k m bytes : Nat} {A : Option Addr} {xs : List Value} {z : Value}
/-- The zeros of m elements. -/
def zeros (z : Value) (m : Nat) : List Value := (Builtin.zeroCells z.cells m).toList
end
end Go.Proofs.YtocaabnbmcpjmaaGreatDoor
