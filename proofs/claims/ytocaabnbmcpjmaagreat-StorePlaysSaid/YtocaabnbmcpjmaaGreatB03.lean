/- Several texts of one claim, one behind the other. -/
import Derived.Test.YtocaabnbmcpjmaaGreatB02
import Derived.Test.YtocaabnbmcpjmaaGreatB01
import Derived.Stop.BytesEq
set_option linter.unusedVariables false
set_option linter.unusedSimpArgs false
namespace Go.Proofs.YtocaabnbmcpjmaaGreat
variable {φ ψ : Prop}
section
open Go.RowKit
def u8s (xs : List Int) : List UInt8 := xs.map fun x => UInt8.ofNat x.toNat
theorem u8s_cell {xs : List Int} (h : IsBytes xs) : bytes xs = (u8s xs).map Extern.Stop.cell := by
 unfold bytes u8s
 rw [List.map_map]
 apply List.map_congr_left
 intro x hx
 obtain ⟨h0, h1⟩ := h x hx
 have hxe : Int.ofNat (UInt8.ofNat x.toNat).toNat = x := by
  show (((UInt8.ofNat x.toNat).toNat : Nat) : Int) = x
  rw [UInt8.toNat_ofNat']; omega
 simp only [Function.comp, Extern.Stop.cell, hxe]
theorem u8s_eq : ∀ {xs ys : List Int}, IsBytes xs → IsBytes ys → ((u8s xs == u8s ys) = decide (xs = ys))
 | [], [], _, _ => rfl
 | [], _ :: _, _, _ => by simp [u8s]
 | _ :: _, [], _, _ => by simp [u8s]
 | x :: xs, y :: ys, h, h' => by
  have ih := u8s_eq (xs := xs) (ys := ys) (fun z hz => h z (List.mem_cons_of_mem _ hz)) (fun z hz => h' z (List.mem_cons_of_mem _ hz))
  obtain ⟨a0, a1⟩ := h x (List.mem_cons_self ..)
  obtain ⟨b0, b1⟩ := h' y (List.mem_cons_self ..)
  have e : (UInt8.ofNat x.toNat == UInt8.ofNat y.toNat) = decide (x = y) := by
   rw [Bool.eq_iff_iff]
   simp only [beq_iff_eq, decide_eq_true_eq, ← UInt8.toNat_inj, UInt8.toNat_ofNat']
   omega
  show (UInt8.ofNat x.toNat :: u8s xs == UInt8.ofNat y.toNat :: u8s ys) = _
  rw [List.cons_beq_cons, ih, e, Bool.eq_iff_iff]
  simp
section
variable {P : Program} {C : World → Prop} {n : Nat} {l : Env} {ty t t' e : TypeId} {x y : Operand} {xs ys : List Int} {N : Nat}
end
section
structure Fa where
 P : World → Prop
 F : Nat → Prop
 lt : ∀ {w k}, P w → F k → k < w.heap.size
 st : ∀ {S : Nat → Prop} {w w'}, P w → Fr S w w' → (∀ k, F k → ¬ S k) → P w'
def Apart (f : Fa) (L : List Fa) : Prop := ∀ g ∈ L, ∀ k, f.F k → ¬ g.F k
def Sep (w : World) : List Fa → Prop
 | [] => True
 | f :: L => f.P w ∧ Apart f L ∧ Sep w L
abbrev In (L : List Fa) : World → Prop := fun w => Sep w L
def foot (L : List Fa) : Nat → Prop := fun k => ∃ f ∈ L, f.F k
inductive At : Fa → List Fa → Prop
 | here {f : Fa} {L : List Fa} : At f (f :: L)
 | there {f g : Fa} {L : List Fa} : At f L → At f (g :: L)
inductive Pick : Fa → List Fa → List Fa → Prop
 | here {f : Fa} {L : List Fa} : Pick f (f :: L) L
 | there {f g : Fa} {L L' : List Fa} : Pick f L L' → Pick f (g :: L) (g :: L')
inductive Sub : List Fa → List Fa → Prop
 | nil {L : List Fa} : Sub L []
 | refl {L : List Fa} : Sub L L
 | cons {f : Fa} {L L1 L' : List Fa} : Pick f L L1 → Sub L1 L' → Sub L (f :: L')
 | skip {f : Fa} {L L' : List Fa} : Sub L L' → Sub (f :: L) L'
 | free {f : Fa} {L L' : List Fa} : (∀ w, f.P w) → (∀ k, ¬ f.F k) → Sub L L' → Sub L (f :: L')
section
variable {w w' : World} {f g : Fa} {L L' : List Fa}
theorem At.mem (h : At f L) : f ∈ L := by
 induction h with
 | here => exact List.mem_cons_self ..
 | there _ ih => exact List.mem_cons_of_mem _ ih
theorem At.of_mem : ∀ {L : List Fa}, f ∈ L → At f L
 | g :: L, h => by
  rcases List.mem_cons.1 h with h | h
  ·subst h; exact .here
  ·exact .there (At.of_mem h)
theorem Sep.mem : ∀ {L : List Fa}, Sep w L → f ∈ L → f.P w
 | g :: L, ⟨h1, _, h3⟩, h => by
  rcases List.mem_cons.1 h with h | h
  ·subst h; exact h1
  ·exact h3.mem h
theorem Sep.at (h : Sep w L) (hp : At f L) : f.P w := h.mem hp.mem
theorem Sep.tl (h : Sep w (f :: L)) : Sep w L := h.2.2
theorem Sep.hd (h : Sep w (f :: L)) : f.P w := h.1
theorem Sep.apart (h : Sep w (f :: L)) : ∀ g ∈ L, ∀ k, f.F k → ¬ g.F k := h.2.1
theorem Pick.mem {L L' : List Fa} (h : Pick f L L') : ∀ x, x ∈ L ↔ x = f ∨ x ∈ L' := by
 induction h with
 | here => intro x; simp
 | there _ ih =>
  intro x; rw [List.mem_cons, ih x, List.mem_cons]
  constructor <;> rintro (h | h | h) <;> simp [h]
theorem Sep.pick (h : Sep w L) (hp : Pick f L L') : Sep w (f :: L') := by
 induction hp with
 | here => exact h
 | there hp ih =>
  rename_i g L L'
  obtain ⟨h1, h2, h3⟩ := h
  obtain ⟨i1, i2, i3⟩ := ih h3
  refine ⟨i1, fun x hx k hk hk' => ?_, h1, fun x hx => h2 x ((hp.mem x).2 (.inr hx)), i3⟩
  rcases List.mem_cons.1 hx with e | e
  ·subst e; exact h2 _ ((hp.mem _).2 (.inl rfl)) k hk' hk
  ·exact i2 x e k hk hk'
theorem Sub.mem (h : Sub L L') : ∀ x ∈ L', x ∈ L ∨ ∀ k, ¬ x.F k := by
 induction h with
 | nil => intro x hx; cases hx
 | refl => exact fun _ h => .inl h
 | cons hp _ ih =>
  intro x hx
  rcases List.mem_cons.1 hx with e | e
  ·exact .inl ((hp.mem x).2 (.inl e))
  ·exact (ih x e).imp (fun h => (hp.mem x).2 (.inr h)) id
 | skip _ ih => exact fun x hx => (ih x hx).imp (List.mem_cons_of_mem _) id
 | free _ hF _ ih =>
  intro x hx
  rcases List.mem_cons.1 hx with e | e
  ·subst e; exact .inr hF
  ·exact ih x e
theorem Sep.sub (h : Sep w L) (hs : Sub L L') : Sep w L' := by
 induction hs with
 | nil => exact trivial
 | refl => exact h
 | cons hp hs ih =>
  have h1 := h.pick hp
  exact ⟨h1.1, fun x hx k hk hk' => (hs.mem x hx).elim (fun e => h1.2.1 x e k hk hk') (fun e => e k hk'), ih h1.2.2⟩
 | skip _ ih => exact ih h.tl
 | free hP hF _ ih => exact ⟨hP w, fun _ _ k hk _ => hF k hk, ih h⟩
theorem Sep.foot_lt : ∀ {L : List Fa}, Sep w L → ∀ k, foot L k → k < w.heap.size := fun h k ⟨f, hf, hk⟩ => f.lt (h.mem hf) hk
theorem Sep.fr {S : Nat → Prop} : ∀ {L : List Fa}, Sep w L → Fr S w w' → (∀ k, foot L k → ¬ S k) → Sep w' L
 | [], _, _, _ => trivial
 | f :: L, ⟨h1, h2, h3⟩, hF, hS => ⟨f.st h1 hF (fun k hk => hS k ⟨f, List.mem_cons_self .., hk⟩), h2, Sep.fr h3 hF (fun k ⟨g, hg, hk⟩ => hS k ⟨g, List.mem_cons_of_mem _ hg, hk⟩)⟩
theorem Sep.nil (h : Sep w L) (hF : Fr Nil w w') : Sep w' L := h.fr hF (fun _ _ e => e)
theorem Sep.app_l : ∀ {A B : List Fa}, Sep w (A ++ B) → Sep w A
 | [], _, _ => trivial
 | f :: A, B, ⟨h1, h2, h3⟩ => ⟨h1, fun x hx => h2 x (List.mem_append_left _ hx), Sep.app_l h3⟩
theorem Sep.app_r : ∀ {A B : List Fa}, Sep w (A ++ B) → Sep w B
 | [], _, h => h
 | f :: A, B, h => Sep.app_r (A := A) h.2.2
theorem Sep.app_apart : ∀ {A B : List Fa}, Sep w (A ++ B) → ∀ k, foot A k → ¬ foot B k
 | [], _, _, k, ⟨_, hf, _⟩, _ => by cases hf
 | f :: A, B, ⟨h1, h2, h3⟩, k, ⟨g, hg, hk⟩, ⟨b, hb, hkb⟩ => by
  rcases List.mem_cons.1 hg with e | e
  ·subst e; exact h2 b (List.mem_append_right _ hb) k hk hkb
  ·exact Sep.app_apart h3 k ⟨g, e, hk⟩ ⟨b, hb, hkb⟩
theorem Sep.app : ∀ {A B : List Fa}, Sep w A → Sep w B → (∀ k, foot A k → ¬ foot B k) → Sep w (A ++ B)
 | [], _, _, h, _ => h
 | f :: A, B, ⟨h1, h2, h3⟩, hB, hd => by
  refine ⟨h1, fun x hx k hk hk' => ?_, Sep.app h3 hB (fun k ⟨g, hg, hk⟩ => hd k ⟨g, List.mem_cons_of_mem _ hg, hk⟩)⟩
  rcases List.mem_append.1 hx with e | e
  ·exact h2 x e k hk hk'
  ·exact hd k ⟨f, List.mem_cons_self .., hk⟩ ⟨x, e, hk'⟩
theorem Sep.steps {A B K : List Fa} {S : Nat → Prop} (h : Sep w (A ++ K)) (hF : Fr S w w') (hS : ∀ k, k < w.heap.size → S k → foot A k) (hB : Sep w' B) (hf : ∀ k, foot B k → foot A k ∨ w.heap.size ≤ k) : Sep w' (B ++ K) := by
 have hK := h.app_r
 have hd := h.app_apart
 refine hB.app (hK.fr hF (fun k hk e => hd k (hS k (hK.foot_lt k hk) e) hk)) (fun k hk hk' => ?_)
 rcases hf k hk with e | e
 ·exact hd k e hk'
 ·have := hK.foot_lt k hk'
  omega
theorem foot_nil {k : Nat} : ¬ foot [] k := fun ⟨_, h, _⟩ => by cases h
theorem foot_cons {k : Nat} : foot (f :: L) k ↔ f.F k ∨ foot L k := by
 constructor
 ·rintro ⟨g, hg, hk⟩
  rcases List.mem_cons.1 hg with e | e
  ·subst e; exact .inl hk
  ·exact .inr ⟨g, e, hk⟩
 ·rintro (h | ⟨g, hg, hk⟩)
  ·exact ⟨f, List.mem_cons_self .., h⟩
  ·exact ⟨g, List.mem_cons_of_mem _ hg, hk⟩
theorem Sep.step {S : Nat → Prop} (h : Sep w (f :: L)) (hF : Fr S w w') (hS : ∀ k, k < w.heap.size → S k → f.F k) (hg : g.P w') (hf : ∀ k, g.F k → f.F k ∨ w.heap.size ≤ k) : Sep w' (g :: L) :=
 Sep.steps (A := [f]) (B := [g]) h hF (fun k hk hs => foot_cons.2 (.inl (hS k hk hs))) ⟨hg, (fun x hx => by cases hx), trivial⟩ (fun k hk => by
   rcases foot_cons.1 hk with e | e
   · exact (hf k e).imp (fun e => foot_cons.2 (.inl e)) id
   · exact absurd e foot_nil)
theorem Sep.new (h : Sep w L) (hF : Fr Nil w w') (hg : g.P w') (hf : ∀ k, g.F k → w.heap.size ≤ k) : Sep w' (g :: L) :=
 ⟨hg, fun x hx k hk hk' => by have := x.lt (h.mem hx) hk'; have := hf k hk; omega, h.nil hF⟩
end
def blk (g : Nat) (t : TypeId) (cs : List Value) : Fa := ⟨fun w => Blk w g t cs.toArray, fun k => k = g, fun h e => by rw [e]; exact h.lt, fun h hF hn => h.fr hF (hn _ rfl)⟩
def own (e : TypeId) (size : Nat) (A : Option Addr) (n c : Nat) (xs : List Value) : Fa :=
 ⟨fun w => w.ownsRow 0 e size (.slice A n c) n xs, fun k => blockOf A = some k, fun h e => own_lt h (own_of_blockOf e), fun h hF hn => own_fr h hF (fun k hk => hn k (by cases A <;> simp_all [Value.ownBlock, blockOf]))⟩
def old (w0 : World) : Fa := ⟨fun w => Fr Nil w0 w, fun k => k < w0.heap.size, fun h e => by have := h.size; omega, fun h hF hn => h.trans hF (fun k hk e => absurd e (hn k hk))⟩
def ice (w0 : World) (Z : Nat → Prop) : Fa := ⟨fun w => w0.heap.size ≤ w.heap.size ∧ ∀ k, k < w0.heap.size → Z k → w.heap[k]? = w0.heap[k]?, fun k => k < w0.heap.size ∧ Z k, fun h e => by have := h.1; omega,
 fun h hF hn => ⟨Nat.le_trans h.1 hF.size, fun k hk hz => (hF.block k (Nat.lt_of_lt_of_le hk h.1) (hn k ⟨hk, hz⟩)).trans (h.2 k hk hz)⟩⟩
def star (L : List Fa) : Fa := ⟨fun w => Sep w L, fun k => foot L k, fun h e => h.foot_lt _ e, fun h hF hn => h.fr hF hn⟩
theorem Sub.own_nil {e : TypeId} {size : Nat} {L L' : List Fa} (h : Sub L L') : Sub L (own e size none 0 0 [] :: L') := .free (fun w => World.ownsRow_nil w 0 e size) (fun _ hk => by cases hk) h
def Vw (L : List Fa) (φ : World → Prop) : Prop := ∀ w, Sep w L → φ w
section
variable {w w0 : World} {f : Fa} {L L' : List Fa} {φ : World → Prop}
theorem Vw.mono (h : Vw L φ) (hs : Sub L' L) : Vw L' φ := fun w hw => h w (hw.sub hs)
theorem Vw.imp {ψ : World → Prop} (h : Vw L φ) (hi : ∀ w, φ w → ψ w) : Vw L ψ := fun w hw => hi w (h w hw)
theorem Vw.of_old {size n : Nat} {A : Option Addr} {xs : List Value} (h : At (old w0) L) (hr : Reads w0 size A n xs) : Vw L (fun w => Reads w size A n xs) := fun _ hw => hr.fr (hw.at h) (fun _ _ e => e)
theorem Vw.of_own {e : TypeId} {size n c : Nat} {A : Option Addr} {xs : List Value} (h : At (own e size A n c xs) L) : Vw L (fun w => Reads w size A n xs) := fun _ hw => Reads.of_own (hw.at h)
theorem Sep.start (w : World) : Sep w [old w] := ⟨Fr.refl _ _, (fun _ h => by cases h), trivial⟩
end
def SL (P : Program) (ops : Array Oper) (Q : Exit → Act → World → Prop) (rest : List Oper) (n : Nat) (l : Env) (L : List Fa) : Prop := ∀ w, Sep w L → WL P ops Q rest n l w
def SC (P : Program) (c : Code) (Q : Exit → Act → World → Prop) (n : Nat) (l : Env) (L : List Fa) : Prop := ∀ w, Sep w L → WC P c Q n l w
def SE (Q : Exit → Act → World → Prop) (e : Exit) (n : Nat) (l : Env) (L : List Fa) : Prop := ∀ w, Sep w L → WE Q e n l w
def SD (P : Program) (ops : Array Oper) (Q : Exit → Act → World → Prop) (S : World → Prop) (need : Nat → Bool) (fuel : Nat) (listed : Array Bool) (n : Nat) (l : Env) (L : List Fa) : Prop := ∀ w, Sep w L → WD P ops Q S need fuel listed n l w
def Fn (P : Program) (f : FuncId) (args : Array Value) (L : List Fa) (R : Ending → World → Prop) : Prop := ∀ w, Sep w L → Calls P f args w R
def Ret {α : Type} (φ : α → Prop) (v : α → Value) (H : α → List Fa) : Ending → World → Prop := fun e w => ∃ x, φ x ∧ e = .returned (v x) ∧ Sep w (H x)
def Pan {α : Type} (φ : α → Prop) (c : α → List PanicEntry) (H : α → List Fa) : Ending → World → Prop := fun e w => ∃ x, φ x ∧ e = .panicked (c x) ∧ Sep w (H x)
section
variable {P : Program} {ops : Array Oper} {Q : Exit → Act → World → Prop} {n : Nat} {l : Env} {L L' : List Fa} {rest : List Oper}
theorem fn_enter {f : FuncId} {fn : Func} {c : Code} {args : Array Value} {R : Ending → World → Prop} (hf : P.funcs[f]? = some fn) (hb : fn.body = some c) (N : Nat) (hN : fn.ntmps = N) (ha : args.size ≤ N)
  (l : Env) (hl : ∀ d v, lk l d = some v → args[d]? = some v) (h : SC P c (bodyPost P fn R) N l L) : Fn P f args L R := fun w hw => wc_enter hf hb N hN ha l hl (h w hw)
theorem Fn.sub {f : FuncId} {args : Array Value} {R : Ending → World → Prop} (h : Fn P f args L R) (hs : Sub L' L) : Fn P f args L' R := fun w hw => h w (hw.sub hs)
theorem Fn.mono {f : FuncId} {args : Array Value} {R R' : Ending → World → Prop} (h : Fn P f args L R) (hs : ∀ e w, R e w → R' e w) : Fn P f args L R' := fun w hw => (h w hw).mono hs
theorem sl_know (h : ∀ w, Sep w L → φ) (hk : φ → SL P ops Q rest n l L) : SL P ops Q rest n l L := fun w hw => hk (h w hw) w hw
theorem sc_know {c : Code} {φ : Prop} (h : ∀ w, Sep w L → φ) (hk : φ → SC P c Q n l L) : SC P c Q n l L := fun w hw => hk (h w hw) w hw
theorem fn_know {f : FuncId} {args : Array Value} {R : Ending → World → Prop} {φ : Prop} (h : ∀ w, Sep w L → φ) (hk : φ → Fn P f args L R) : Fn P f args L R := fun w hw => hk (h w hw) w hw
theorem sl_sub (hs : Sub L L') (h : SL P ops Q rest n l L') : SL P ops Q rest n l L := fun w hw => h w (hw.sub hs)
theorem sc_sub {c : Code} (hs : Sub L L') (h : SC P c Q n l L') : SC P c Q n l L := fun w hw => h w (hw.sub hs)
theorem sc_env {c : Code} (l' : Env) (hl : Has l l') (h : SC P c Q n l' L) : SC P c Q n l L := fun w hw => wc_sub l' hl (h w hw)
theorem SL.to {w : World} (hw : Sep w L) (h : SL P ops Q rest n l L) : WL P ops Q rest n l w := h w hw
theorem sl_of (h : ∀ w, Sep w L → WL P ops Q rest n l w) : SL P ops Q rest n l L := h
theorem sc_seq {x y : Code} (h : SC P x (Exit.then (fun a w => y.wp P Q a w) Q) n l L) : SC P (.seq x y) Q n l L := fun w hw => wc_seq (h w hw)
theorem sc_skip (h : SE Q .normal n l L) : SC P .skip Q n l L := fun w hw => wc_skip (h w hw)
theorem sc_exit {id : Nat} (h : SE Q (.exit id) n l L) : SC P (.exit id) Q n l L := fun w hw => wc_exit (h w hw)
theorem sc_ret (h : SE Q .ret n l L) : SC P .ret Q n l L := fun w hw => wc_ret (h w hw)
theorem sc_block {id : Nat} {c : Code} (h : SC P c (Exit.inBlock id Q) n l L) : SC P (.block id c) Q n l L := fun w hw => wc_block (h w hw)
theorem sc_if_t {c : Operand} {x y : Code} (hc : ev l c = some (.bool true)) (h : SC P x Q n l L) : SC P (.cond c x y) Q n l L := fun w hw => wc_if_t hc (h w hw)
theorem sc_if_f {c : Operand} {x y : Code} (hc : ev l c = some (.bool false)) (h : SC P y Q n l L) : SC P (.cond c x y) Q n l L := fun w hw => wc_if_f hc (h w hw)
theorem sc_region {id : Nat} {o : List Oper} (h : SL P o.toArray Q o n l L) : SC P (.region id o.toArray false) Q n l L := fun w hw => wc_region (h w hw)
theorem sc_for {α : Type} {c : Code} (E : α → Env) (H : α → List Fa) (R : α → Prop) (m : α → Nat) (k0 : α) (hE : Has l (E k0)) (hH : Sub L (H k0)) (h0 : R k0)
  (round : ∀ k, R k → SC P c (Exit.then (fun a' w' => ∃ k', Sl n (E k') a' ∧ (R k' ∧ Sep w' (H k')) ∧ m k' < m k) Q) n (E k) (H k)) : SC P (.loop c) Q n l L := fun w hw =>
 wc_for E (fun k w => R k ∧ Sep w (H k)) m k0 hE ⟨h0, hw.sub hH⟩ (fun k w h => round k h.1 w h.2)
theorem se_round {α : Type} {E : α → Env} {H : α → List Fa} {R : α → Prop} {m : α → Nat} {M : Nat} (k' : α) (hE : Has l (E k')) (hH : Sub L (H k')) (hR : R k') (hm : m k' < M) :
  SE (Exit.then (fun a' w' => ∃ k', Sl n (E k') a' ∧ (R k' ∧ Sep w' (H k')) ∧ m k' < M) Q) .normal n l L := fun _ hw => WE.mk fun _ hs => ⟨k', hs.sub hE.sub, ⟨hR, hw.sub hH⟩, hm⟩
theorem sc_mid {α : Type} {x y : Code} (E : α → Env) (H : α → List Fa) (R : α → Prop) (hx : SC P x (Exit.then (fun a w => ∃ p : α, Sl n (E p) a ∧ R p ∧ Sep w (H p)) Q) n l L) (hy : ∀ p, R p → SC P y Q n (E p) (H p)) : SC P (.seq x y) Q n l L := fun w hw =>
 wc_mid E (fun k w => R k ∧ Sep w (H k)) (hx w hw) (fun p w' h => hy p h.1 w' h.2)
theorem sc_join {α : Type} {x y : Code} (E : α → Env) (H : α → List Fa) (R : α → Prop) (hx : SC P x (Exit.then (fun a w => ∃ p : α, Sl n (E p) a ∧ R p ∧ Sep w (H p)) Q) n l L) (hy : ∀ p, R p → SC P y Q n (E p) (H p)) : SC P x (Exit.then (fun a w => y.wp P Q a w) Q) n l L := fun w hw =>
 wc_join E (fun k w => R k ∧ Sep w (H k)) (hx w hw) (fun p w' h => hy p h.1 w' h.2)
theorem se_mid {α : Type} {E : α → Env} {H : α → List Fa} {R : α → Prop} (p : α) (hE : Has l (E p)) (hH : Sub L (H p)) (hR : R p) : SE (Exit.then (fun a w => ∃ p : α, Sl n (E p) a ∧ R p ∧ Sep w (H p)) Q) .normal n l L := fun _ hw =>
 we_mid (R := fun k w => R k ∧ Sep w (H k)) p hE ⟨hR, hw.sub hH⟩
theorem se_seq {c : Code} (h : SC P c Q n l L) : SE (Exit.then (fun a w => c.wp P Q a w) Q) .normal n l L := fun w hw => we_seq (h w hw)
theorem se_then_exit {K : Act → World → Prop} {id : Nat} (h : SE Q (.exit id) n l L) : SE (Exit.then K Q) (.exit id) n l L := fun w hw => we_then_exit (h w hw)
theorem se_then_ret {K : Act → World → Prop} (h : SE Q .ret n l L) : SE (Exit.then K Q) .ret n l L := fun w hw => we_then_ret (h w hw)
theorem se_then_panic {K : Act → World → Prop} {c : List PanicEntry} (h : SE Q (.panic c) n l L) : SE (Exit.then K Q) (.panic c) n l L := fun w hw => we_then_panic (h w hw)
theorem se_block {id : Nat} (h : SE Q .normal n l L) : SE (Exit.inBlock id Q) .normal n l L := fun w hw => we_block (h w hw)
theorem se_block_hit {id : Nat} (h : SE Q .normal n l L) : SE (Exit.inBlock id Q) (.exit id) n l L := fun w hw => we_block_hit (h w hw)
theorem se_block_miss {id id' : Nat} (hne : Nat.beq id' id = false) (h : SE Q (.exit id') n l L) : SE (Exit.inBlock id Q) (.exit id') n l L := fun w hw => we_block_miss hne (h w hw)
theorem se_block_ret {id : Nat} (h : SE Q .ret n l L) : SE (Exit.inBlock id Q) .ret n l L := fun w hw => we_block_ret (h w hw)
theorem se_block_panic {id : Nat} {c : List PanicEntry} (h : SE Q (.panic c) n l L) : SE (Exit.inBlock id Q) (.panic c) n l L := fun w hw => we_block_panic (h w hw)
section
variable {fn : Func} {α : Type} {φ : α → Prop} {vv : α → Value} {H : α → List Fa}
theorem se_ret1 {t : Nat} (x : α) (hφ : φ x) (hr : fn.results = #[.tmp t]) (hv : lk l t = some (vv x)) (hs : Sub L (H x)) : SE (bodyPost P fn (Ret φ vv H)) .ret n l L := fun _ hw => we_ret1 hr hv ⟨x, hφ, rfl, hw.sub hs⟩
theorem se_ret2 {t u : Nat} {v1 v2 : Value} (x : α) (hφ : φ x) (hr : fn.results = #[.tmp t, .tmp u]) (hv : lk l t = some v1) (hu : lk l u = some v2) (he : vv x = .tuple #[v1, v2]) (hs : Sub L (H x)) : SE (bodyPost P fn (Ret φ vv H)) .ret n l L := fun _ hw => we_ret2 hr hv hu ⟨x, hφ, by rw [he], hw.sub hs⟩
theorem se_ret0 (x : α) (hφ : φ x) (hr : fn.results = #[]) (he : vv x = .tuple #[]) (hs : Sub L (H x)) : SE (bodyPost P fn (Ret φ vv H)) .ret n l L := fun _ hw => we_ret0 hr ⟨x, hφ, by rw [he], hw.sub hs⟩
theorem se_end0 (x : α) (hφ : φ x) (hr : fn.results = #[]) (he : vv x = .tuple #[]) (hs : Sub L (H x)) : SE (bodyPost P fn (Ret φ vv H)) .normal n l L := fun _ hw => we_end0 hr ⟨x, hφ, by rw [he], hw.sub hs⟩
theorem se_panic {c : α → List PanicEntry} (x : α) (hφ : φ x) (hs : Sub L (H x)) : SE (bodyPost P fn (Pan φ c H)) (.panic (c x)) n l L := fun _ hw => we_panic ⟨x, hφ, rfl, hw.sub hs⟩
theorem results_tmp3 {f : Func} {t u v : Nat} (h : f.results = #[.tmp t, .tmp u, .tmp v]) (tmps : Array Value) (P : Program) (w : World) :
  (results f tmps).run P w = .ok (.tuple #[tmps.getD t undef, tmps.getD u undef, tmps.getD v undef]) w := by simp [results, h, go_sem]
theorem se_ret3 {t u v : Nat} {v1 v2 v3 : Value} (x : α) (hφ : φ x) (hr : fn.results = #[.tmp t, .tmp u, .tmp v]) (hv : lk l t = some v1) (hu : lk l u = some v2) (hw3 : lk l v = some v3) (he : vv x = .tuple #[v1, v2, v3]) (hs : Sub L (H x)) : SE (bodyPost P fn (Ret φ vv H)) .ret n l L := fun w hw => WE.mk fun a hs' =>
 bodyPost_ret (results_tmp3 hr _ _ _) hs'.df (by rw [hs'.get hv, hs'.get hu, hs'.get hw3]; exact ⟨x, hφ, by rw [he], hw.sub hs⟩)
end
end
section
variable {P : Program} {ops : Array Oper} {Q : Exit → Act → World → Prop} {n : Nat} {l : Env} {L L' L1 : List Fa} {rest : List Oper} {q : Act → Prop}
 {d : Tmp} {op : Op} {ty t t' e : TypeId} {pos : String} {after : Array Edge} {v z : Value} {dst : Option Tmp} {x y : Operand} {g i : Nat} {cs cs' : List Value} {ad : Addr} {A B : Option Addr} {m c size bytes k : Nat} {xs ys cl : List Value}
theorem sl_nil (h : SE Q .normal n l L) : SL P ops Q [] n l L := fun w hw => wl_nil (h w hw)
theorem sl_pu (hr : Pu P (In L) n l op ty v) (hd : Nat.blt d n = true) (h : SL P ops Q rest n ((d, v) :: l) L) : SL P ops Q (⟨some d, op, ty, pos, after, none⟩ :: rest) n l L := fun w hw => wl_pu (by unfold Pu at hr ⊢; exact fun a b c d' e W hs hW => hr a b c d' e W hs (by rw [hW]; exact hw)) hd (h w hw)
theorem sl_yes {j t : Nat} {b : Bool} (hj : (ops[j]?).bind (·.dst) = some t) (ht : lk l t = some (.bool b)) (h : SL P ops Q (⟨dst, op, ty, pos, after, none⟩ :: rest) n l L) : SL P ops Q (⟨dst, op, ty, pos, after, some (j, b)⟩ :: rest) n l L := fun w hw => wl_yes hj ht (h w hw)
theorem sl_no {j t : Nat} {b : Bool} (hj : (ops[j]?).bind (·.dst) = some t) (ht : lk l t = some (.bool (!b))) (hd : Nat.blt d n = true) (h : SL P ops Q rest n ((d, undef) :: l) L) : SL P ops Q (⟨some d, op, ty, pos, after, some (j, b)⟩ :: rest) n l L := fun w hw => wl_no hj ht hd (h w hw)
theorem sl_off {j t : Nat} {b : Bool} (hj : (ops[j]?).bind (·.dst) = some t) (ht : lk l t = some undef) (hd : Nat.blt d n = true) (h : SL P ops Q rest n ((d, undef) :: l) L) : SL P ops Q (⟨some d, op, ty, pos, after, some (j, b)⟩ :: rest) n l L := fun w hw => wl_off hj ht hd (h w hw)
def Mid (xs : List Value) (o : Nat) (cl : List Value) : Prop := ∀ j v, cl[j]? = some v → xs[o + j]? = some v
theorem Mid.of_append {a b : List Value} {o : Nat} (ho : a.length = o) : Mid (a ++ cl ++ b) o cl := fun j v hj => by
 subst ho
 obtain ⟨hl, _⟩ := List.getElem?_eq_some_iff.1 hj
 rw [List.append_assoc, List.getElem?_append_right (by omega), Nat.add_sub_cancel_left, List.getElem?_append_left hl]; exact hj
theorem Mid.head {b : List Value} : Mid (cl ++ b) 0 cl := Mid.of_append (a := []) rfl
theorem Mid.all : Mid cl 0 cl := fun j v hj => by simpa using hj
theorem pu_lds {td : TypeDesc} (hb : At (blk g t' cs) L) (hx : ev l x = some (.pointer (some ⟨g, i, none⟩))) (hm : Mid cs i cl) (hu : P.underlying t = some td) (hd' : (match td with | .struct _ | .array _ _ => true | _ => false) = true) (hi : szOf P t = some cl.length) : Pu P (In L) n l (.load t x) ty (.agg cl.toArray) :=
 pu_load_agg hx hu hd' hi (fun W hW j v hj => by
   have hb' : Blk W g t' cs.toArray := hW.at hb
   rw [add_none, hb'.cell]
   simpa using hm j v hj)
theorem pu_ldr (hr : Vw L (fun w => Reads w size (some ad) m xs)) (hm : 0 < m) (hx : ev l x = some (.pointer (some (ad.add i)))) (ht : plainT P t = true) (hi : nth xs i = some v) : Pu P (In L) n l (.load t x) ty v :=
 pu_load hx ht (fun W hW => by
   obtain ⟨ad', h1, h2⟩ := (hr W hW).2 hm
   cases h1
   exact h2 i v (by rw [← nth_eq]; exact hi))
theorem pu_ldrs {td : TypeDesc} (hr : Vw L (fun w => Reads w size (some ad) m xs)) (hm : 0 < m) (hx : ev l x = some (.pointer (some (ad.add i)))) (hc : Mid xs i cl) (hu : P.underlying t = some td) (hd' : (match td with | .struct _ | .array _ _ => true | _ => false) = true) (hi : szOf P t = some cl.length) : Pu P (In L) n l (.load t x) ty (.agg cl.toArray) :=
 pu_load_agg hx hu hd' hi (fun W hW j v hj => by
   obtain ⟨ad', h1, h2⟩ := (hr W hW).2 hm
   cases h1
   rw [add_twice]
   exact h2 _ v (hc j v hj))
theorem pu_strv {bs : List Int} (hr : Vw L (fun w => Reads w 1 A m (bs.map (Value.int .u8)))) (hx : ev l x = some (.slice A m c)) (ht : P.underlying t = some (.slice e)) (he : P.underlying e = some (.int .u8)) (hd : P.underlying t' = some .string) : Pu P (In L) n l (.convert t t' x) ty (.string (strOfNums bs)) := pu_str hx ht he hd (fun W hW => hr W hW)
theorem Sep.newBlk {w w' : World} (h : Sep w L) (hF : Fr Nil w w') (hB : Blk w' w.heap.size t cs.toArray) : Sep w' (blk w.heap.size t cs :: L) := h.new hF hB (fun k e => Nat.le_of_eq e.symm)
def cellsO : Value → Option (List Value)
 | .agg ⟨l⟩ => some l
 | v => some [v]
theorem cellsO_eq (h : cellsO v = some cs) : v.cells = cs.toArray := by
 unfold cellsO at h
 split at h
 ·simp at h
  subst h
  rfl
 ·rename_i h2
  simp at h
  subst h
  cases v <;> first | rfl | (rename_i a; exact absurd rfl (h2 a.toList))
theorem sl_new (hr : ∀ w, Ru P n l op ty w (.pointer (some ⟨w.heap.size, 0, none⟩)) (w.alloc (.cells cs.toArray t))) (hd : Nat.blt d n = true) (h : ∀ g, SL P ops Q rest n ((d, .pointer (some ⟨g, 0, none⟩)) :: l) (blk g t cs :: L)) : SL P ops Q (⟨some d, op, ty, pos, after, none⟩ :: rest) n l L := fun w hw =>
 wl_new (hr w) hd (fun w' hF _ hB => h _ w' (hw.newBlk hF hB))
theorem sl_alloc (hz : zeroOf P t = some z) (hc : cellsO z = some cs) (hd : Nat.blt d n = true) (h : ∀ g, SL P ops Q rest n ((d, .pointer (some ⟨g, 0, none⟩)) :: l) (blk g t cs :: L)) : SL P ops Q (⟨some d, .alloc t, ty, pos, after, none⟩ :: rest) n l L := sl_new (fun _ => by rw [← cellsO_eq hc]; exact ru_alloc hz) hd h
theorem sl_box (hx : ev l x = some v) (hc : cellsO v = some cs) (hd : Nat.blt d n = true) (h : ∀ g, SL P ops Q rest n ((d, .pointer (some ⟨g, 0, none⟩)) :: l) (blk g t cs :: L)) : SL P ops Q (⟨some d, .box t x, ty, pos, after, none⟩ :: rest) n l L := sl_new (fun _ => by rw [← cellsO_eq hc]; exact ru_box hx) hd h
inductive SetAt : Nat → Value → List Value → List Value → Prop
 | here {a v : Value} {r : List Value} : SetAt 0 v (a :: r) (v :: r)
 | there {i : Nat} {a v : Value} {r r' : List Value} : SetAt i v r r' → SetAt (i + 1) v (a :: r) (a :: r')
theorem SetAt.eq {i : Nat} {v : Value} {r r' : List Value} (h : SetAt i v r r') : i < r.length ∧ r.set i v = r' := by
 induction h with
 | here => simp
 | there _ ih => exact ⟨by simp; exact ih.1, by simp [ih.2]⟩
theorem SetAt.mk {i : Nat} {v : Value} {r : List Value} (h : i < r.length) : SetAt i v r (r.set i v) := by
 induction r generalizing i with
 | nil => simp at h
 | cons a r ih =>
  cases i with
  | zero => exact .here
  | succ i => exact .there (ih (by simpa using h))
theorem sl_store (hx : ev l x = some (.pointer (some ⟨g, i, none⟩))) (hp : Pick (blk g t' cs) L L') (hy : ev l y = some v) (h1 : v.oneCell' = true) (ht : szOf P t = some 1) (he : SetAt i v cs cs')
  (h : SL P ops Q rest n l (blk g t' cs' :: L')) : SL P ops Q (⟨none, .store t x y, ty, pos, after, none⟩ :: rest) n l L := fun w hw => by
 have h2 := hw.pick hp
 refine wl_store hx hy h1 ht h2.hd (by simpa using he.eq.1) (fun w' hF _ hB => h w' (h2.step hF (fun k _ e => e) ?_ (fun k e => .inl e)))
 have h3 : Blk w' g t' cs'.toArray := by rw [← he.eq.2]; simpa using hB
 exact h3
theorem sl_store_whole {cl : List Value} (hx : ev l x = some (.pointer (some ⟨g, 0, none⟩))) (hp : Pick (blk g t' cs) L L') (hy : ev l y = some (.agg cl.toArray)) (hi : szOf P t = some cl.length) (hc : cs.length = cl.length) (h1 : ∀ v ∈ cl, v.oneCell' = true)
  (h : SL P ops Q rest n l (blk g t' cl :: L')) : SL P ops Q (⟨none, .store t x y, ty, pos, after, none⟩ :: rest) n l L := fun w hw => by
 have h2 := hw.pick hp
 exact wl_store_blk hx hy h2.hd hi (by simp) (by simpa using hc) (by simpa using h1) (fun w' hF _ hB => h w' (h2.step hF (fun k _ e => e) hB (fun k e => .inl e)))
theorem ownBlock_slice {A : Option Addr} {m c : Nat} : (Value.slice A m c).ownBlock = blockOf A := by cases A <;> rfl
theorem sl_app (hx : ev l x = some (.slice A k c)) (hp : Pick (own e size A k c xs) L L') (hy : ev l y = some (.slice B m i)) (hr : Vw L (fun w => Reads w size B m ys)) (h1 : ∀ u ∈ ys, u.oneCell' = true) (ht : P.underlying t = some (.slice e)) (hi : (P.info? e).map (fun i => (i.zero, i.size, i.bytes)) = some (some z, size, bytes)) (hzs : z.cells.size = size) (hsz : 0 < size)
  (hd : Nat.blt d n = true) (h63 : k + m ≤ maxLen) (hby : (k + m) * bytes ≤ 140737488355328)
  (h : ∀ A' c', SL P ops Q rest n ((d, .slice A' (k + m) c') :: l) (own e size A' (k + m) c' (xs ++ ys) :: L')) : SL P ops Q (⟨some d, .call { callee := .builtin .append, args := #[x, y], argTypes := #[t, t] }, ty, pos, after, none⟩ :: rest) n l L := fun w hw => by
 have h2 := hw.pick hp
 have hO : w.ownsRow 0 e size (.slice A k c) k xs := h2.hd
 refine wl_app hx hy ht hi hzs hsz hd hO (hr w hw) h1 h63 hby (fun A' c' w' hO' hg hat => h A' c' w' ?_); refine h2.step (f := own e size A k c xs) ((Fr.refl (fun k => blockOf A = some k) w).grown hg (fun k hk _ => by rw [← ownBlock_slice]; exact hk)) (fun k _ e => e) hO' (fun k hk => ?_)
 have hk' : blockOf A' = some k := hk
 rw [ownBlock_slice, ownBlock_slice, hk'] at hat
 rcases hat with e | e
 ·exact .inl e.symm
 ·exact .inr (Nat.le_of_eq (Option.some.inj e).symm)
theorem sl_form (hp : At (own e size A m c xs) L) (hm : 0 < m) (h : ∀ g, A = some ⟨g, 0, none⟩ → SL P ops Q rest n l L) : SL P ops Q rest n l L := fun w hw => by
 obtain ⟨g, cap, hv, _, _⟩ := World.ownsRow.form (hw.at hp) hm
 exact h g (by injection hv) w hw
theorem sc_form {cd : Code} (hp : At (own e size A m c xs) L) (hm : 0 < m) (h : ∀ g, A = some ⟨g, 0, none⟩ → SC P cd Q n l L) : SC P cd Q n l L := fun w hw => by
 obtain ⟨g, cap, hv, _, _⟩ := World.ownsRow.form (hw.at hp) hm
 exact h g (by injection hv) w hw
theorem own_len {w : World} (hw : Sep w L) (hp : At (own e size A m c xs) L) : xs.length = m * size ∧ m ≤ c ∧ c ≤ maxLen := ⟨(hw.at hp).1, own_cap (hw.at hp)⟩
section
variable {f : FuncId} {cap : List Value} {zs : List Operand} {vs : List Value} {ats : Array TypeId} {α : Type} {φ : α → Prop} {vv : α → Value} {H : α → List Fa}
theorem sl_call (hx : ev l x = some (.func (.func f) #[] cap.toArray)) (hv : evs l zs = some vs) (hf : callable P f = true) (hd : Nat.blt d n = true) (hs : Sub L L1) (hc : Fn P f (vs ++ cap).toArray L1 (Ret φ vv H))
  (h : ∀ a, φ a → SL P ops Q rest n ((d, vv a) :: l) (H a)) : SL P ops Q (⟨some d, .call { callee := .value x, args := zs.toArray, argTypes := ats }, ty, pos, after, none⟩ :: rest) n l L := fun w hw =>
 wl_call hx hv hf hd (hc w (hw.sub hs)) (fun e w' ⟨a, h1, h2, h3⟩ => ⟨_, h2, h a h1 w' h3⟩)
theorem sl_die {cc : α → List PanicEntry} (hx : ev l x = some (.func (.func f) #[] cap.toArray)) (hv : evs l zs = some vs) (hf : callable P f = true) (hs : Sub L L1) (hc : Fn P f (vs ++ cap).toArray L1 (Pan φ cc H))
  (h : ∀ a, φ a → SE Q (.panic (cc a)) n l (H a)) : SL P ops Q (⟨dst, .call { callee := .value x, args := zs.toArray, argTypes := ats }, ty, pos, after, none⟩ :: rest) n l L := fun w hw =>
 wl_die hx hv hf (hc w (hw.sub hs)) (fun e w' ⟨a, h1, h2, h3⟩ => ⟨_, h2, h a h1 w' h3⟩)
end
theorem sq_region {id : Nat} {o : List Oper} (hm : P.follows .mixedOrders = true) (hB : Region.lexB .any o.toArray = true) (h : WQ P o.toArray (In L) (fun a => ∀ w', In L w' → Q .normal a w') o n l) : SC P (.region id o.toArray true) Q n l L := fun w hw =>
 wc_quiet (In L) hm hB (hw.nil ((Fr.refl Nil w).drew)) h
theorem sq_end (h : SE Q .normal n l L) : WQ P ops (In L) (fun a => ∀ w', In L w' → Q .normal a w') [] n l := wq_nil fun a hs w' hw => (h w' hw).get hs
theorem WQ_call {f : FuncId} {cap : List Value} {zs : List Operand} {vs : List Value} {ats : Array TypeId} {φ : Unit → Prop} {vv : Unit → Value} (hx : ev l x = some (.func (.func f) #[] cap.toArray)) (hv : evs l zs = some vs) (hf : callable P f = true) (hd : Nat.blt d n = true)
  (hc : Fn P f (vs ++ cap).toArray L (Ret φ vv (fun _ => L))) (h : WQ P ops (In L) q rest n ((d, vv ()) :: l)) : WQ P ops (In L) q (⟨some d, .call { callee := .value x, args := zs.toArray, argTypes := ats }, ty, pos, after, none⟩ :: rest) n l :=
 wq_call (vv ()) hx hv hf hd (fun W hW => (hc W hW).mono fun e w' ⟨a, _, h2, h3⟩ => ⟨h2, h3⟩) h
def All (L0 : List Fa) (w : World) : Prop := ∀ f ∈ L0, f.P w
theorem Sep.all {w : World} (h : Sep w L) (hs : ∀ f ∈ L1, f ∈ L) : All L1 w := fun f hf => h.mem (hs f hf)
variable {S : World → Prop} {need : Nat → Bool} {fuel : Nat} {listed : Array Bool}
theorem sd_drawn {id : Nat} {o : List Oper} (S : World → Prop) (need : Nat → Bool) (hm : P.follows .mixedOrders = true) (N : Nat) (hN : o.length = N) (h : SD P o.toArray Q S need N (Array.replicate N false) n l L) : SC P (.region id o.toArray true) Q n l L := fun w hw =>
 wc_drawn S need hm N hN (h _ (hw.nil ((Fr.refl Nil w).drew)))
theorem sd_take (i : Nat) (hi : ops[i]? = some ⟨some d, op, ty, pos, after, none⟩) (hB : (Region.noSelect ops && Region.free .any ops listed i && (Region.ready .any ops listed).contains i && needOk .any ops need i) = true)
  (hQ : NoP Q) (hr : Pu P S n l op ty v) (hd : Nat.blt d n = true) (hS : ∀ w, Sep w L → S w) (h : SD P ops Q S need fuel (listed.setIfInBounds i true) n ((d, v) :: l) L) : SD P ops Q S need (fuel + 1) listed n l L := fun w hw =>
 wd_take i hi hB hQ hr hd (hS w hw) (h w hw)
theorem sd_pu (i : Nat) (hr : Region.ready .any ops listed = [i]) (ho : ops[i]? = some ⟨some d, op, ty, pos, after, none⟩) (hru : Pu P (In L) n l op ty v) (hd : Nat.blt d n = true) (hS : need i = true → ∀ w, Sep w L → S w)
  (h : SD P ops Q S need fuel (listed.setIfInBounds i true) n ((d, v) :: l) L) : SD P ops Q S need (fuel + 1) listed n l L := fun w hw =>
 wd_pu i hr ho (by unfold Pu at hru ⊢; exact fun a b c d' e W hs hW => hru a b c d' e W hs (by rw [hW]; exact hw)) hd (fun e => hS e w hw) (h w hw)
theorem sd_call (i : Nat) {f : FuncId} {cap : List Value} {zs : List Operand} {vs : List Value} {ats : Array TypeId} {α : Type} {φ : α → Prop} {vv : α → Value} {H : α → List Fa} (hr : Region.ready .any ops listed = [i]) (ho : ops[i]? = some ⟨some d, .call { callee := .value x, args := zs.toArray, argTypes := ats }, ty, pos, after, none⟩)
  (hx : ev l x = some (.func (.func f) #[] cap.toArray)) (hv : evs l zs = some vs) (hf : callable P f = true) (hd : Nat.blt d n = true) (hs : Sub L L1) (hc : Fn P f (vs ++ cap).toArray L1 (Ret φ vv H)) (hS : need i = true → ∀ a w, Sep w (H a) → S w)
  (h : ∀ a, φ a → SD P ops Q S need fuel (listed.setIfInBounds i true) n ((d, vv a) :: l) (H a)) : SD P ops Q S need (fuel + 1) listed n l L := fun w hw =>
 wd_call i hr ho hx hv hf hd (hc w (hw.sub hs)) (fun e w' ⟨a, h1, h2, h3⟩ => ⟨_, h2, fun e => hS e a w' h3, h a h1 w' h3⟩)
def SA (P : Program) (ops : Array Oper) (Q : Exit → Act → World → Prop) (S : World → Prop) (need : Nat → Bool) (fuel : Nat) (listed : Array Bool) (n : Nat) (l : Env) (L : List Fa) (i : Nat) : Prop := ∀ w, Sep w L → WA P ops Q S need fuel listed n l w i
theorem sd_two (i j : Nat) (hr : Region.ready .any ops listed = [i, j]) (hi : SA P ops Q S need fuel listed n l L i) (hj : SA P ops Q S need fuel listed n l L j) : SD P ops Q S need (fuel + 1) listed n l L := fun w hw => wd_two i j hr (hi w hw) (hj w hw)
theorem sa_call (i : Nat) {f : FuncId} {cap : List Value} {zs : List Operand} {vs : List Value} {ats : Array TypeId} {α : Type} {φ : α → Prop} {vv : α → Value} {H : α → List Fa} (ho : ops[i]? = some ⟨some d, .call { callee := .value x, args := zs.toArray, argTypes := ats }, ty, pos, after, none⟩)
  (hx : ev l x = some (.func (.func f) #[] cap.toArray)) (hv : evs l zs = some vs) (hf : callable P f = true) (hd : Nat.blt d n = true) (hs : Sub L L1) (hc : Fn P f (vs ++ cap).toArray L1 (Ret φ vv H)) (hS : need i = true → ∀ a w, Sep w (H a) → S w)
  (h : ∀ a, φ a → SD P ops Q S need fuel (listed.setIfInBounds i true) n ((d, vv a) :: l) (H a)) : SA P ops Q S need fuel listed n l L i := fun w hw =>
 wa_call i ho hx hv hf hd (hc w (hw.sub hs)) (fun e w' ⟨a, h1, h2, h3⟩ => ⟨_, h2, fun e => hS e a w' h3, h a h1 w' h3⟩)
theorem sd_done (hr : Region.ready .any ops listed = []) (h : SE Q .normal n l L) : SD P ops Q S need fuel listed n l L := fun w hw => wd_done hr (h w hw)
theorem sd_store (i : Nat) {j : Nat} (hr : Region.ready .any ops listed = [i]) (ho : ops[i]? = some ⟨none, .store t x y, ty, pos, after, none⟩) (hx : ev l x = some (.pointer (some ⟨g, j, none⟩))) (hp : Pick (blk g t' cs) L L') (hy : ev l y = some v) (h1 : v.oneCell' = true) (ht : szOf P t = some 1) (he : SetAt j v cs cs')
  (hS : need i = true → ∀ w, Sep w (blk g t' cs' :: L') → S w) (h : SD P ops Q S need fuel (listed.setIfInBounds i true) n l (blk g t' cs' :: L')) : SD P ops Q S need (fuel + 1) listed n l L := fun w hw => by
 have h2 := hw.pick hp
 have hb : Blk w g t' cs.toArray := h2.hd
 have h3 : Sep (w.setCell ⟨g, j, none⟩ v) (blk g t' cs' :: L') := h2.step (f := blk g t' cs) (S := fun k => k = g) ((Fr.refl (fun k => k = g) w).setCell (.inr rfl) _) (fun k _ e => e) (by
   have h4 := hb.set_ j v
   have h5 : Blk (w.setCell ⟨g, j, none⟩ v) g t' cs'.toArray := by rw [← he.eq.2]; simpa using h4
   exact h5) (fun k e => .inl e)
 exact wd_skip i hr ho (rs_store hx hy h1 ht hb (by simpa using he.eq.1)) (fun e => hS e _ h3) (h _ h3)
end
def AllP (w : World) : List Fa → Prop
 | [] => True
 | f :: r => f.P w ∧ AllP w r
theorem AllP.nil {w : World} : AllP w [] := trivial
theorem AllP.cons {w : World} {f : Fa} {r : List Fa} (h : f.P w) (hr : AllP w r) : AllP w (f :: r) := ⟨h, hr⟩
theorem AllP.at {w : World} {f : Fa} : ∀ {r : List Fa}, AllP w r → At f r → f.P w := fun {r} h ha => by
 induction ha with
 | here => exact h.1
 | there _ ih => exact ih h.2
section
variable {P : Program} {n : Nat} {l : Env} {L0 : List Fa} {t t' ty : TypeId} {x : Operand} {g i : Nat} {cs cl : List Value} {v : Value}
end
theorem se_of {Q : Exit → Act → World → Prop} {e : Exit} {n : Nat} {l : Env} {L : List Fa} (h : ∀ w, Sep w L → WE Q e n l w) : SE Q e n l L := h
theorem SA.to {P : Program} {ops : Array Oper} {Q : Exit → Act → World → Prop} {S : World → Prop} {need : Nat → Bool} {fuel : Nat} {listed : Array Bool} {n : Nat} {l : Env} {L : List Fa} {w : World} {i : Nat} (hw : Sep w L) (h : SA P ops Q S need fuel listed n l L i) : WA P ops Q S need fuel listed n l w i := h w hw
theorem sa_of {P : Program} {ops : Array Oper} {Q : Exit → Act → World → Prop} {S : World → Prop} {need : Nat → Bool} {fuel : Nat} {listed : Array Bool} {n : Nat} {l : Env} {L : List Fa} {i : Nat} (h : ∀ w, Sep w L → WA P ops Q S need fuel listed n l w i) : SA P ops Q S need fuel listed n l L i := h
theorem sep_one {f : Fa} {w : World} (h : f.P w) : Sep w [f] := ⟨h, (fun _ hx => by cases hx), trivial⟩
theorem SD.to {P : Program} {ops : Array Oper} {Q : Exit → Act → World → Prop} {S : World → Prop} {need : Nat → Bool} {fuel : Nat} {listed : Array Bool} {n : Nat} {l : Env} {L : List Fa} {w : World} (hw : Sep w L) (h : SD P ops Q S need fuel listed n l L) : WD P ops Q S need fuel listed n l w := h w hw
theorem sd_of {P : Program} {ops : Array Oper} {Q : Exit → Act → World → Prop} {S : World → Prop} {need : Nat → Bool} {fuel : Nat} {listed : Array Bool} {n : Nat} {l : Env} {L : List Fa} (h : ∀ w, Sep w L → WD P ops Q S need fuel listed n l w) : SD P ops Q S need fuel listed n l L := h
theorem Fn.top {P : Program} {f : FuncId} {args : Array Value} {w : World} (h : Fn P f args [old w] (Ret (fun _ : Unit => True) (fun _ => .bool true) (fun _ => [old w]))) : Calls P f args w fun e w' => e = .returned (.bool true) ∧ Fr Nil w w' :=
 (h w (Sep.start w)).mono fun _ _ ⟨_, _, h2, h3⟩ => ⟨h2, h3.at .here⟩
attribute [irreducible] Sep SL SC SE SD SA Fn blk own old ice star
end
end
end Go.Proofs.YtocaabnbmcpjmaaGreat
