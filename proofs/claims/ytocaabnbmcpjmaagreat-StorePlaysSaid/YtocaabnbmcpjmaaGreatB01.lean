/- Several texts of one claim, one behind the other. -/
import Derived.WalkKit
import Derived.WalkSpells
import Derived.WalkLawsBesides
import Derived.Lib.Hide
import Derived.Maps.AppendAt
import Derived.Deep.AppendLies
import Derived.Deep.Draws
import Derived.Laws.BytesArg
import Derived.OrdersHeld
import Derived.NoCompiler
import Derived.Tactics
import Derived.Test.YtocaabnbmcpjmaaGreatRows
import Derived.Laws.BitsAllLaws
import Derived.Laws.Bits64b
import Derived.Laws.CopyOwn
import Derived.Deep.MidRow
import Derived.Deep.DrawnRows
import Derived.Deep.RegionLaw
import Derived.BigRegion
import Derived.Defers
import Derived.Recover
import Derived.Deep.Slices
import Derived.OpenShut
set_option linter.unusedVariables false
set_option linter.unusedSimpArgs false
set_option maxRecDepth 100000
set_option maxHeartbeats 16000000
namespace Go.Proofs.YtocaabnbmcpjmaaGreat
variable {φ ψ : Prop}
section
open Go.RowKit
theorem add_none (g o j : Nat) : (⟨g, o, none⟩ : Addr).add j = ⟨g, o + j, none⟩ := by
 unfold Addr.add
 split
 ·rename_i h; subst h; simp
 ·rfl
theorem add_block (a : Addr) (n : Nat) : (a.add n).block = a.block := by
 unfold Addr.add
 split <;> rfl
theorem add_twice (a : Addr) (i j : Nat) : (a.add i).add j = a.add (i + j) := by
 unfold Addr.add
 by_cases hi : i = 0 <;> by_cases hj : j = 0 <;> simp [hi, hj, Nat.add_assoc]
def Blk (w : World) (g : Nat) (t : TypeId) (cs : Array Value) : Prop := w.heap[g]? = some (.cells cs t (0, 0))
structure Fr (S : Nat → Prop) (w w' : World) : Prop where
 os : w'.os = w.os
 tape : w'.tape = w.tape
 output : w'.output = w.output
 size : w.heap.size ≤ w'.heap.size
 block : ∀ k, k < w.heap.size → ¬ S k → w'.heap[k]? = w.heap[k]?
def Nil : Nat → Prop := fun _ => False
section
variable {S T : Nat → Prop} {a w w' : World}
theorem Fr.refl (S : Nat → Prop) (w : World) : Fr S w w := ⟨rfl, rfl, rfl, Nat.le_refl _, fun _ _ _ => rfl⟩
theorem Fr.mono (h : Fr S a w) (hs : ∀ k, k < a.heap.size → S k → T k) : Fr T a w := ⟨h.os, h.tape, h.output, h.size, fun k hk hn => h.block k hk (fun e => hn (hs k hk e))⟩
theorem Fr.trans (h : Fr S a w) (h' : Fr T w w') (hs : ∀ k, k < a.heap.size → T k → S k) : Fr S a w' :=
 ⟨h'.os.trans h.os, h'.tape.trans h.tape, h'.output.trans h.output, Nat.le_trans h.size h'.size,
   fun k hk hn => (h'.block k (Nat.lt_of_lt_of_le hk h.size) (fun e => hn (hs k hk e))).trans (h.block k hk hn)⟩
theorem Fr.drew (h : Fr S a w) : Fr S a w.drew := ⟨h.os, h.tape, h.output, h.size, h.block⟩
theorem Fr.drewN (h : Fr S a w) (n : Nat) : Fr S a (w.drewN n) := ⟨h.os, h.tape, h.output, h.size, h.block⟩
theorem Fr.alloc (h : Fr S a w) (o : Obj) : Fr S a (w.alloc o) :=
 ⟨h.os, h.tape, h.output, Nat.le_trans h.size (by simp), fun k hk hn => (Below.heap_alloc w o k (Nat.lt_of_lt_of_le hk h.size)).trans (h.block k hk hn)⟩
theorem Fr.setCell (h : Fr S a w) {p : Addr} (hp : a.heap.size ≤ p.block ∨ S p.block) (u : Value) : Fr S a (w.setCell p u) :=
 ⟨h.os, h.tape, h.output, by simpa [World.setCell] using h.size, fun k hk hn => (Below.heap_setCell w p u k (by
   rintro rfl
   rcases hp with hp | hp
   · omega
   · exact hn hp)).trans (h.block k hk hn)⟩
theorem Fr.grown {row : Option Nat} (h : Fr S a w) (hg : w.grownBy w' row) (hr : ∀ k, row = some k → k < a.heap.size → S k) : Fr S a w' :=
 ⟨hg.os.trans h.os, hg.tape.trans h.tape, hg.output.trans h.output, Nat.le_trans h.size hg.size,
   fun k hk hn => (hg.block k (Nat.lt_of_lt_of_le hk h.size) (fun e => hn (hr k e.symm hk))).trans (h.block k hk hn)⟩
theorem Fr.cell (h : Fr S a w) {p : Addr} (hp : p.block < a.heap.size) (hn : ¬ S p.block) : w.cell? p = a.cell? p := World.cell?_of_block (w := a) (h.block p.block hp hn)
theorem Fr.frozen (h : Fr S a w) {p : Addr} (hp : p.block < a.heap.size) (hn : ¬ S p.block) : w.frozen? p = a.frozen? p := World.frozen?_of_block (w := a) (h.block p.block hp hn)
theorem Fr.below {B : Nat} (h : Fr S a w) (hB : B ≤ a.heap.size) (hs : ∀ k, k < B → ¬ S k) : Below B a w := ⟨h.os, h.tape, h.output, h.size, fun k hk => h.block k (Nat.lt_of_lt_of_le hk hB) (hs k hk)⟩
theorem Fr.nil_below (h : Fr Nil a w) : Below a.heap.size a w := h.below (Nat.le_refl _) (fun _ _ e => e)
end
section
variable {w w' : World} {g : Nat} {t : TypeId} {cs : Array Value}
theorem Blk.lt (h : Blk w g t cs) : g < w.heap.size := by
 rcases Nat.lt_or_ge g w.heap.size with hlt | hge
 ·exact hlt
 ·unfold Blk at h; rw [Array.getElem?_eq_none hge] at h; cases h
theorem Blk.cell (h : Blk w g t cs) (i : Nat) : w.cell? ⟨g, i, none⟩ = cs[i]? := cell_of_row w g i cs t (0, 0) h
theorem Blk.frozen (h : Blk w g t cs) (i : Nat) : w.frozen? ⟨g, i, none⟩ = false := frozen_of_row w g i cs t h
theorem Blk.new (w : World) (t : TypeId) (cs : Array Value) : Blk (w.alloc (.cells cs t)) w.heap.size t cs := heap_alloc_new w _
theorem Blk.drew (h : Blk w g t cs) : Blk w.drew g t cs := h
theorem Blk.drewN (h : Blk w g t cs) (n : Nat) : Blk (w.drewN n) g t cs := h
theorem Blk.alloc (h : Blk w g t cs) (o : Obj) : Blk (w.alloc o) g t cs := (Below.heap_alloc w o g h.lt).trans h
theorem Blk.set_ (h : Blk w g t cs) (i : Nat) (u : Value) : Blk (w.setCell ⟨g, i, none⟩ u) g t (cs.setIfInBounds i u) := by
 unfold Blk at h ⊢
 simp [World.setCell, Array.getElem?_modify, h]
theorem Blk.far (h : Blk w g t cs) {p : Addr} (hp : g ≠ p.block) (u : Value) : Blk (w.setCell p u) g t cs := (Below.heap_setCell w p u g hp).trans h
theorem Blk.fr {S : Nat → Prop} (h : Blk w g t cs) (hf : Fr S w w') (hn : ¬ S g) : Blk w' g t cs := (hf.block g h.lt hn).trans h
theorem Blk.grown {row : Option Nat} (h : Blk w g t cs) (hg : w.grownBy w' row) (hn : row ≠ some g) : Blk w' g t cs := (hg.block g h.lt (fun e => hn e.symm)).trans h
theorem own_fr {S : Nat → Prop} {base : Nat} {e : TypeId} {size n : Nat} {v : Value} {xs : List Value} (h : w.ownsRow base e size v n xs) (hf : Fr S w w') (hn : ∀ k, v.ownBlock = some k → ¬ S k) : w'.ownsRow base e size v n xs := by
 refine ⟨h.1, ?_⟩
 rcases h.2 with h0 | ⟨g', cap, cur, rfl, hb, hh, r⟩
 ·exact .inl h0
 ·exact .inr ⟨g', cap, cur, rfl, hb, (Blk.fr (t := e) hh hf (hn g' rfl)), r⟩
theorem own_form {base : Nat} {e : TypeId} {size n : Nat} {v : Value} {xs : List Value} (h : w.ownsRow base e size v n xs) : ∃ A c, v = .slice A n c := by
 rcases h.2 with ⟨rfl, rfl⟩ | ⟨g', cap, cur, rfl, _⟩
 ·exact ⟨_, _, rfl⟩
 ·exact ⟨_, _, rfl⟩
theorem own_lt {base : Nat} {e : TypeId} {size n : Nat} {v : Value} {xs : List Value} (h : w.ownsRow base e size v n xs) {k : Nat} (hk : v.ownBlock = some k) : k < w.heap.size := (h.lt k hk).2
end
def Reads (w : World) (size : Nat) (A : Option Addr) (n : Nat) (xs : List Value) : Prop :=
 xs.length = n * size ∧ (0 < n → ∃ ad, A = some ad ∧ ∀ j u, xs[j]? = some u → w.cell? (ad.add j) = some u)
def blockOf : Option Addr → Option Nat
 | some ad => some ad.block
 | none => none
section
variable {S : Nat → Prop} {w w' : World} {size n : Nat} {A : Option Addr} {xs : List Value}
theorem Reads.nil_ (A : Option Addr) : Reads w size A 0 [] := ⟨by simp, fun h => absurd h (by omega)⟩
theorem Reads.fr (h : Reads w size A n xs) (hf : Fr S w w') (hn : ∀ k, blockOf A = some k → ¬ S k) : Reads w' size A n xs := by
 refine ⟨h.1, fun h0 => ?_⟩
 obtain ⟨ad, rfl, hc⟩ := h.2 h0
 refine ⟨ad, rfl, fun j u hu => ?_⟩
 have h1 := hc j u hu
 have hlt : ad.block < w.heap.size := by have := block_lt_of_cell h1; rwa [add_block] at this
 rw [hf.cell (by rw [add_block]; exact hlt) (by rw [add_block]; exact hn _ rfl)]; exact h1
theorem Reads.of_own {base : Nat} {e : TypeId} {c : Nat} (h : w.ownsRow base e size (.slice A n c) n xs) : Reads w size A n xs := by
 refine ⟨h.1, fun hn => ?_⟩
 obtain ⟨g, cap, hv, _, hlt⟩ := h.form hn
 have hA : A = some ⟨g, 0, none⟩ := by injection hv
 subst hA; exact ⟨_, rfl, h.cells (g := g) rfl⟩
theorem Reads.of_blk {g : Nat} {t : TypeId} {cs : Array Value} (h : Blk w g t cs) (hn : cs.size = n * size) : Reads w size (some ⟨g, 0, none⟩) n cs.toList := by
 refine ⟨by simpa using hn, fun _ => ⟨_, rfl, fun j u hu => ?_⟩⟩
 rw [add_none, h.cell]
 simpa using hu
theorem Reads.cut (h : Reads w size A n xs) {k cap : Nat} (hk : k ≤ n) (hc : n ≤ cap) :
  Reads w size (if cap = k then A else A.map (·.add (k * size))) (n - k) (xs.drop (k * size)) := by
 refine ⟨by rw [List.length_drop, h.1, Nat.sub_mul], fun hn => ?_⟩
 obtain ⟨ad, rfl, hcell⟩ := h.2 (by omega)
 rw [if_neg (by omega)]
 refine ⟨ad.add (k * size), rfl, fun j u hu => ?_⟩
 rw [add_twice]; exact hcell _ u (by rw [← hu, List.getElem?_drop])
theorem Reads.take (h : Reads w size A n xs) {k : Nat} (hk : k ≤ n) : Reads w size A k (xs.take (k * size)) := by
 refine ⟨by rw [List.length_take, h.1, Nat.min_eq_left (Nat.mul_le_mul_right _ hk)], fun hn => ?_⟩
 obtain ⟨ad, rfl, hcell⟩ := h.2 (by omega)
 refine ⟨ad, rfl, fun j u hu => hcell j u ?_⟩
 rw [List.getElem?_take] at hu
 split at hu
 ·exact hu
 ·cases hu
end
theorem run_str {P : Program} (w : World) (src dst e : TypeId) (hs : P.underlying src = some (.slice e)) (he : P.underlying e = some (.int .u8)) (hd : P.underlying dst = some .string)
  (A : Option Addr) (n c : Nat) (bs : List Int) (h : Reads w 1 A n (bs.map (Value.int .u8))) : (convert src dst (.slice A n c)).run P w = .ok (.string (strOfNums bs)) w := by
 have hlen : bs.length = n := by simpa using h.1
 cases A with
 | none =>
  have hn : n = 0 := by
   rcases Nat.eq_zero_or_pos n with h0 | h0
   ·exact h0
   ·obtain ⟨ad, hh, _⟩ := h.2 h0
    cases hh
  subst hn
  obtain rfl : bs = [] := List.eq_nil_of_length_eq_zero hlen
  exact run_convert_bytes_nil w src e hs he 0 c dst hd
 | some ad =>
  have hcell : ∀ j u, (bs.map (Value.int .u8))[j]? = some u → w.cell? (ad.add j) = some u := by
   intro j u hu
   rcases Nat.eq_zero_or_pos n with h0 | h0
   ·subst h0
    obtain rfl : bs = [] := List.eq_nil_of_length_eq_zero hlen
    simp at hu
   ·obtain ⟨ad', hh, hc⟩ := h.2 h0
    injection hh with hh
    subst hh; exact hc j u hu
  have hl : (loadCells ad n).run P w = .ok (bs.map (Value.int .u8)).toArray w := by
   have := run_loadCells_list (P := P) w ad (bs.map (Value.int .u8)) hcell
   simpa [hlen] using this
  rw [run_convert_bytes_string w src dst e _ n c hs he hd, run_bytesToString w _ n c bs hl, foldl_push_bytes]
  simp [strOfNums, ByteArray.empty, ByteArray.emptyWithCapacity]
  rfl
section
variable {P : Program} (w : World)
theorem run_app (t ty e : TypeId) (i : TypeInfo) (z : Value) (size bytes : Nat) (ht : P.underlying t = some (.slice e)) (hi : P.info? e = some i) (hz : i.zero = some z)
  (hsize : i.size = size) (hby : i.bytes = bytes) (hzs : z.cells.size = size) (hsz : 0 < size)
  (v : Value) (n : Nat) (xs : List Value) (hown : w.ownsRow 0 e size v n xs)
  (A : Option Addr) (m c : Nat) (news : List Value) (hr : Reads w size A m news) (h1 : ∀ u ∈ news, u.oneCell' = true)
  (h63 : n + m ≤ maxLen) (hbytes : (n + m) * bytes ≤ 140737488355328) :
  ∃ v' w', (Builtin.append_ #[t, t] ty #[v, .slice A m c]).run P w = .ok v' w' ∧ w'.ownsRow 0 e size v' (n + m) (xs ++ news) ∧ w.grownBy w' v.ownBlock ∧
   (v'.ownBlock = v.ownBlock ∨ v'.ownBlock = some w.heap.size) := by
 have hnone : m = 0 → ∃ v' w', (Builtin.append_ #[t, t] ty #[v, .slice none m c]).run P w = .ok v' w' ∧ w'.ownsRow 0 e size v' (n + m) (xs ++ news) ∧ w.grownBy w' v.ownBlock ∧
   (v'.ownBlock = v.ownBlock ∨ v'.ownBlock = some w.heap.size) := by
  intro hm; subst hm
  have hn : news = [] := List.eq_nil_of_length_eq_zero (by simpa using hr.1)
  subst hn
  refine ⟨v, w, ?_, by simpa using hown, ⟨rfl, rfl, rfl, Nat.le_refl _, fun _ _ _ => rfl⟩, .inl rfl⟩
  rcases hown.2 with ⟨rfl, rfl⟩ | ⟨g, cap, cur, rfl, _, _, hnc, _⟩
  ·simp [Builtin.append_, run_underlying ht, sizeOf, typeInfo, hi, Builtin.lenOf, Builtin.firstCells]
  ·simp [Builtin.append_, run_underlying ht, sizeOf, typeInfo, hi, Builtin.lenOf, Builtin.firstCells, hnc, storeCells]
 rcases A with _ | ad
 ·refine hnone ?_
  rcases Nat.eq_zero_or_pos m with h0 | h0
  ·exact h0
  ·obtain ⟨ad, h, _⟩ := hr.2 h0
   cases h
 ·have hcells : ∀ j u, news[j]? = some u → w.cell? (ad.add j) = some u := by
   intro j u hu
   rcases Nat.eq_zero_or_pos m with h0 | h0
   ·subst h0
    have hn : news = [] := List.eq_nil_of_length_eq_zero (by simpa using hr.1)
    subst hn
    simp at hu
   ·obtain ⟨ad', h, hc⟩ := hr.2 h0
    injection h with h
    subst h; exact hc j u hu
  obtain ⟨v', w', hrun, h2, h3, _, h5⟩ := run_append_own_at (P := P) w 0 t ty e i z size bytes ht hi hz hsize hby hzs hsz v n xs hown ad m c news hr.1 hcells h1 h63 hbytes (Nat.zero_le _)
  exact ⟨v', w', hrun, h2, h3, h5⟩
end
end
section
open Go
section
variable {P : Program} {ops : Array Oper} {Q : Exit → Act → World → Prop} {md : Region.Mode} {S : World → Prop} {need : Nat → Bool}
def wpAnyD (P : Program) (md : Region.Mode) (ops : Array Oper) (Q : Exit → Act → World → Prop) (S : World → Prop) (need : Nat → Bool) : Nat → Array Bool → Act → World → Prop
 | 0, listed, a, w => Region.ready md ops listed = [] ∧ Q .normal a w
 | fuel + 1, listed, a, w =>
  (Region.ready md ops listed = [] → Q .normal a w) ∧
  ∀ i ∈ Region.ready md ops listed, wpOp P ops Q i (fun a' w' => (need i = true → S w') ∧ wpAnyD P md ops Q S need fuel (listed.setIfInBounds i true) a' w') a w
theorem wpAny_of_D : ∀ (fuel : Nat) (listed : Array Bool) (a : Act) (w : World), wpAnyD P md ops Q S need fuel listed a w → wpAny P md ops Q fuel listed a w
 | 0, _, _, _, h => h
 | fuel + 1, _, _, _, h => ⟨h.1, fun i hi => wpOp_mono (fun a' w' h' => wpAny_of_D fuel _ a' w' h'.2) (h.2 i hi)⟩
theorem wpAnyD_first {i : Nat} {oi : Oper} {v : Value} (hi : ops[i]? = some oi) (hsel : ∀ (j : Nat) (o : Oper) cs b, ops[j]? = some o → o.op ≠ .select cs b)
  (hQ : ∀ c a w, Q (.panic c) (a.put oi.dst v) w → Q (.panic c) a w)
  (hneed : ∀ j oj, ops[j]? = some oj → j ≠ i → (∀ e ∈ oj.after, Region.binds md e = true → e.on ≠ i) → need j = true) :
  ∀ (fuel : Nat) (listed : Array Bool) (a : Act) (w : World),
   (∀ j oj, ops[j]? = some oj → j ≠ i → listed.getD j true = false → (∀ e ∈ oj.after, Region.binds md e = true → e.on ≠ i) → oi.apart ops oj = true) →
   i ∈ Region.ready md ops listed → YieldsIf P ops S oi v a → S w →
   wpAnyD P md ops Q S need fuel (listed.setIfInBounds i true) (a.put oi.dst v) w → wpAnyD P md ops Q S need (fuel + 1) listed a w := by
 intro fuel
 induction fuel with
 | zero =>
  intro listed a w _ hr hy hS H
  refine ⟨fun h => (by rw [h] at hr; cases hr), fun j hj => ?_⟩
  by_cases hji : j = i
  ·subst hji; exact hy.wpOp hi hS ⟨fun _ => hS, H⟩
  ·have := ready_mono hj hji
   rw [H.1] at this
   cases this
 | succ fuel ih =>
  intro listed a w hfree hr hy hS H
  refine ⟨fun h => (by rw [h] at hr; cases hr), fun j hj => ?_⟩
  by_cases hji : j = i
  ·subst hji; exact hy.wpOp hi hS ⟨fun _ => hS, H⟩
  ·have h1 := H.2 j (ready_mono hj hji)
   obtain ⟨hjun, oj, hoj, hall⟩ := mem_ready.1 hj
   have hnot : ∀ e ∈ oj.after, Region.binds md e = true → e.on ≠ i := fun e he hb heq => by
    have h1 := hall e he hb
    have h0 := (mem_ready.1 hr).1
    rw [heq] at h1
    rcases Nat.lt_or_ge i listed.size with h' | h'
    ·simp [h'] at h0 h1; rw [h0] at h1; cases h1
    ·simp [Array.getElem?_eq_none h'] at h1
   have hnd := hneed j oj hoj hji hnot
   have h2 := wpOp_putIf hoj (hfree j oj hoj hji hjun hnot) (fun cs b => hsel i oi cs b hi) (fun cs b => hsel j oj cs b hoj) hQ hy h1
   have hfree' : ∀ k ok, ops[k]? = some ok → k ≠ i → (listed.setIfInBounds j true).getD k true = false →
     (∀ e ∈ ok.after, Region.binds md e = true → e.on ≠ i) → oi.apart ops ok = true := fun k ok hk hki hun hno => by
    refine hfree k ok hk hki ?_ hno
    by_cases hjk : j = k
    ·subst hjk; exact hjun
    ·rw [getD_set_ne true hjk] at hun; exact hun
   refine wpOp_mono (fun a' w' h3 => ⟨h3.2.1, ih (listed.setIfInBounds j true) a' w' hfree' (ready_mono hr (Ne.symm hji)) h3.1 (h3.2.1 hnd) ?_⟩) h2
   rw [Array.setIfInBounds_comm _ _ hji]; exact h3.2.2
def needOk (md : Region.Mode) (ops : Array Oper) (need : Nat → Bool) (i : Nat) : Bool :=
 (List.range ops.size).all fun j => j == i || need j || ((ops[j]?).map fun o => o.after.any fun e => Region.binds md e && e.on == i).getD true
theorem needOk_spec {i : Nat} (h : needOk md ops need i = true) (j : Nat) (oj : Oper) (hj : ops[j]? = some oj) (hji : j ≠ i) (hno : ∀ e ∈ oj.after, Region.binds md e = true → e.on ≠ i) : need j = true := by
 unfold needOk at h
 rw [List.all_eq_true] at h
 have hlt : j < ops.size := (Array.getElem?_eq_some_iff.1 hj).1
 have h1 := h j (List.mem_range.2 hlt)
 simp only [hj, Option.map_some, Option.getD_some, Bool.or_eq_true, beq_iff_eq] at h1
 rcases h1 with (h1 | h1) | h1
 ·exact absurd h1 hji
 ·exact h1
 ·rw [Array.any_eq_true] at h1
  obtain ⟨k, hk, he⟩ := h1
  rw [Bool.and_eq_true, beq_iff_eq] at he
  exact absurd he.2 (hno _ (Array.getElem_mem hk) he.1)
theorem D_take {i : Nat} {oi : Oper} {v : Value} {fuel : Nat} {listed : Array Bool} {a : Act} {w : World} (hi : ops[i]? = some oi)
  (hB : (Region.noSelect ops && Region.free md ops listed i && (Region.ready md ops listed).contains i && needOk md ops need i) = true)
  (hQ : ∀ c a d u w, Q (.panic c) (Act.put a d u) w → Q (.panic c) a w) (hy : YieldsIf P ops S oi v a) (hS : S w)
  (h : wpAnyD P md ops Q S need fuel (listed.setIfInBounds i true) (a.put oi.dst v) w) : wpAnyD P md ops Q S need (fuel + 1) listed a w := by
 simp only [Bool.and_eq_true] at hB
 obtain ⟨⟨⟨h1, h2⟩, h3⟩, h4⟩ := hB
 exact wpAnyD_first hi (Region.noSelect_spec h1) (fun c a w => hQ c a _ _ w) (needOk_spec h4) fuel listed a w (Region.free_spec hi h2) (by simpa using h3) hy hS h
theorem D_one {i : Nat} {fuel : Nat} {listed : Array Bool} {a : Act} {w : World} (hr : Region.ready md ops listed = [i])
  (h : wpOp P ops Q i (fun a' w' => (need i = true → S w') ∧ wpAnyD P md ops Q S need fuel (listed.setIfInBounds i true) a' w') a w) : wpAnyD P md ops Q S need (fuel + 1) listed a w :=
 ⟨fun h0 => (by rw [hr] at h0; cases h0), fun j hj => by
   rw [hr] at hj
   obtain rfl : j = i := by simpa using hj
   exact h⟩
theorem D_done {listed : Array Bool} {a : Act} {w : World} (hr : Region.ready md ops listed = []) (h : Q .normal a w) : ∀ fuel, wpAnyD P md ops Q S need fuel listed a w
 | 0 => ⟨hr, h⟩
 | _ + 1 => ⟨fun _ => h, by rw [hr]; simp⟩
theorem D_region (S : World → Prop) (need : Nat → Bool) {id : Nat} {a : Act} {w : World} (hm : P.follows .mixedOrders = true)
  (h : wpAnyD P .any ops Q S need ops.size (Array.replicate ops.size false) a w.drew) : (Code.region id ops true).wp P Q a w :=
 wp_region_any hm (wpAny_of_D _ _ _ _ h)
theorem D_run {i : Nat} {o : Oper} {K : Act → World → Prop} {a : Act} {w w' : World} {v : Value} (ho : ops[i]? = some o) (hw : Region.wanted o (yielded ops a.tmps) = true)
  (hrun : (execOp a.eval o).run P w = .ok (.value v) w') (h : K (a.put o.dst v) w') : wpOp P ops Q i K a w := by
 unfold wpOp
 rw [ho]
 simp only [hw, if_true]
 refine .inl ?_
 unfold Oper.wp
 rw [hrun]; exact h
theorem D_skip {i : Nat} {o : Oper} {K : Act → World → Prop} {a : Act} {w w' : World} (ho : ops[i]? = some o) (hw : Region.wanted o (yielded ops a.tmps) = true)
  (hrun : (execOp a.eval o).run P w = .ok .skip w') (h : K (a.put o.dst undef) w') : wpOp P ops Q i K a w := by
 unfold wpOp
 rw [ho]
 simp only [hw, if_true]
 refine .inl ?_
 unfold Oper.wp
 rw [hrun]; exact h
theorem D_wp {i : Nat} {o : Oper} {K : Act → World → Prop} {a : Act} {w : World} (ho : ops[i]? = some o) (hw : Region.wanted o (yielded ops a.tmps) = true)
  (h : o.wp P a w K Q) : wpOp P ops Q i K a w := by
 unfold wpOp
 rw [ho]
 simp only [hw, if_true]
 exact .inl h
end
theorem D_val {P : Program} {ops : Array Oper} {Q : Exit → Act → World → Prop} {md : Region.Mode} {S : World → Prop} {need : Nat → Bool} {i : Nat} {o : Oper} {fuel : Nat} {listed : Array Bool} {a : Act} {w w' : World} {v : Value}
  (hr : Region.ready md ops listed = [i]) (ho : ops[i]? = some o) (hw : Region.wanted o (yielded ops a.tmps) = true)
  (hrun : (execOp a.eval o).run P w = .ok (.value v) w') (hS : need i = true → S w') (h : wpAnyD P md ops Q S need fuel (listed.setIfInBounds i true) (a.put o.dst v) w') : wpAnyD P md ops Q S need (fuel + 1) listed a w :=
 D_one hr (D_run ho hw hrun ⟨hS, h⟩)
theorem D_unit {P : Program} {ops : Array Oper} {Q : Exit → Act → World → Prop} {md : Region.Mode} {S : World → Prop} {need : Nat → Bool} {i : Nat} {o : Oper} {fuel : Nat} {listed : Array Bool} {a : Act} {w w' : World}
  (hr : Region.ready md ops listed = [i]) (ho : ops[i]? = some o) (hw : Region.wanted o (yielded ops a.tmps) = true)
  (hrun : (execOp a.eval o).run P w = .ok .skip w') (hS : need i = true → S w') (h : wpAnyD P md ops Q S need fuel (listed.setIfInBounds i true) (a.put o.dst undef) w') : wpAnyD P md ops Q S need (fuel + 1) listed a w :=
 D_one hr (D_skip ho hw hrun ⟨hS, h⟩)
theorem D_law {P : Program} {ops : Array Oper} {Q : Exit → Act → World → Prop} {md : Region.Mode} {S : World → Prop} {need : Nat → Bool} {i : Nat} {o : Oper} {fuel : Nat} {listed : Array Bool} {a : Act} {w : World}
  (hr : Region.ready md ops listed = [i]) (ho : ops[i]? = some o) (hw : Region.wanted o (yielded ops a.tmps) = true)
  (h : o.wp P a w (fun a' w' => (need i = true → S w') ∧ wpAnyD P md ops Q S need fuel (listed.setIfInBounds i true) a' w') Q) : wpAnyD P md ops Q S need (fuel + 1) listed a w :=
 D_one hr (D_wp ho hw h)
end
section
open Go.RowKit
theorem Tryz.info5 : (Tryz.prog.info? 5).map (fun i => (i.zero, i.size, i.bytes)) = some (some (.int .u8 0), 1, 1) := by kernel_rfl
def bytes (bs : List Int) : List Value := bs.map (Value.int .u8)
theorem one_bytes (l : List Int) : ∀ u ∈ bytes l, u.oneCell' = true := by
 intro u hu
 obtain ⟨n, _, rfl⟩ := List.mem_map.1 hu
 rfl
theorem own_of_blockOf {A : Option Addr} {m cap g : Nat} (h : blockOf A = some g) : (Value.slice A m cap).ownBlock = some g := by
 cases A with
 | none => cases h
 | some ad => exact h
theorem own_cap {w : World} {base : Nat} {e : TypeId} {size n c : Nat} {A : Option Addr} {xs : List Value} (h : w.ownsRow base e size (.slice A n c) n xs) : n ≤ c ∧ c ≤ maxLen := by
 rcases h.2 with ⟨h1, rfl⟩ | ⟨g', cap, cur, h1, _, _, h2, h3, _⟩
 ·injection h1 with _ _ h1
  subst h1; exact ⟨Nat.le_refl _, by simp [maxLen]⟩
 ·injection h1 with _ _ h1
  subst h1; exact ⟨h2, h3⟩
end
section
open Go
def le (n : Int) (k : Nat) : List Int := (List.range k).map fun i => n / 2 ^ (8 * i) % 256
theorem le_succ (n : Int) (k : Nat) : le n (k + 1) = le n k ++ [n / 2 ^ (8 * k) % 256] := by simp [le, List.range_succ]
theorem le_len (n : Int) (k : Nat) : (le n k).length = k := by simp [le]
def leV : List Int → Int
 | [] => 0
 | b :: r => b + 256 * leV r
def IsBytes (l : List Int) : Prop := ∀ x ∈ l, 0 ≤ x ∧ x < 256
theorem IsBytes.take {l : List Int} (h : IsBytes l) (k : Nat) : IsBytes (l.take k) := fun x hx => h x (List.mem_of_mem_take hx)
theorem IsBytes.drop {l : List Int} (h : IsBytes l) (k : Nat) : IsBytes (l.drop k) := fun x hx => h x (List.mem_of_mem_drop hx)
theorem IsBytes.app {a b : List Int} (h : IsBytes a) (h' : IsBytes b) : IsBytes (a ++ b) := fun x hx => (List.mem_append.1 hx).elim (h x) (h' x)
theorem le_bytes (n : Int) (k : Nat) : IsBytes (le n k) := by
 intro x hx
 obtain ⟨i, _, rfl⟩ := List.mem_map.1 hx
 constructor <;> omega
theorem pow8 (k : Nat) : (2 : Int) ^ (8 * (k + 1)) = 256 * 2 ^ (8 * k) := by
 rw [show 8 * (k + 1) = 8 * k + 8 from by omega, Int.pow_add]; omega
theorem pow_small (k : Nat) (h : k < 8) : (0 : Int) < 2 ^ (8 * k) ∧ (2 : Int) ^ (8 * k) ≤ 72057594037927936 := by
 have h1 : (2 : Nat) ^ (8 * k) ≤ 2 ^ 56 := Nat.pow_le_pow_right (by decide) (by omega)
 have h56 : (2 : Nat) ^ 56 = 72057594037927936 := by decide
 have hc : ((2 ^ (8 * k) : Nat) : Int) = 2 ^ (8 * k) := by push_cast; rfl
 exact ⟨Int.pow_pos (by decide), by omega⟩
theorem leV_snoc (xs : List Int) (x : Int) : leV (xs ++ [x]) = leV xs + 2 ^ (8 * xs.length) * x := by
 induction xs with
 | nil => simp [leV]
 | cons b r ih =>
  rw [List.cons_append, leV, leV, ih, List.length_cons, pow8, Int.mul_add, Int.mul_assoc]; omega
theorem leV_lt {xs : List Int} (h : IsBytes xs) : 0 ≤ leV xs ∧ leV xs < 2 ^ (8 * xs.length) := by
 induction xs with
 | nil => simp [leV]
 | cons b r ih =>
  obtain ⟨h1, h2⟩ := ih (fun x hx => h x (List.mem_cons_of_mem _ hx))
  obtain ⟨h3, h4⟩ := h b (List.mem_cons_self ..)
  rw [leV, List.length_cons, pow8]; omega
theorem or_add (a x : Nat) (j : Nat) (ha : a < 2 ^ (8 * j)) (hj : j ≤ 7) (hx : x < 256) : bits .or .u64 (a : Int) (IntKind.u64.wrap ((x : Int) * 2 ^ (8 * j))) = ((a + x * 2 ^ (8 * j) : Nat) : Int) := by
 have hp : (2 : Nat) ^ (8 * j) ≤ 2 ^ 56 := Nat.pow_le_pow_right (by decide) (by omega)
 have h56 : (2 : Nat) ^ 56 = 72057594037927936 := by decide
 have hm : x * 2 ^ (8 * j) ≤ 255 * 72057594037927936 := Nat.mul_le_mul (by omega) (by omega)
 have hc : (x : Int) * 2 ^ (8 * j) = ((x * 2 ^ (8 * j) : Nat) : Int) := by push_cast; rfl
 rw [hc, IntKind.wrap_u64, show ((x * 2 ^ (8 * j) : Nat) : Int) % 18446744073709551616 = ((x * 2 ^ (8 * j) : Nat) : Int) from by omega, bits_or_u64_nat a (x * 2 ^ (8 * j)) (by omega) (by omega)]
 have h := Nat.shiftLeft_add_eq_or_of_lt ha x
 rw [Nat.shiftLeft_eq] at h
 rw [Nat.or_comm, ← h, Nat.add_comm]
theorem or_step {xs : List Int} (h : IsBytes xs) (j : Nat) (hj : j < xs.length) (hj7 : j ≤ 7) :
  bits .or .u64 (leV (xs.take j)) (IntKind.u64.wrap (xs[j] * 2 ^ (8 * j))) = leV (xs.take (j + 1)) := by
 obtain ⟨h1, h2⟩ := leV_lt (h.take j)
 rw [List.length_take, Nat.min_eq_left (by omega)] at h2
 obtain ⟨h3, h4⟩ := h _ (List.getElem_mem hj)
 rw [List.take_succ_eq_append_getElem hj, leV_snoc, List.length_take, Nat.min_eq_left (by omega)]
 obtain ⟨a, ha⟩ := Int.eq_ofNat_of_zero_le h1
 obtain ⟨x, hx⟩ := Int.eq_ofNat_of_zero_le h3
 rw [ha, hx]
 have h2' : a < 2 ^ (8 * j) := by
  rw [ha] at h2
  exact_mod_cast h2
 rw [or_add a x j h2' hj7 (by omega)]
 push_cast
 rw [Int.mul_comm]
theorem leV_le (n : Int) (hn : 0 ≤ n) (k : Nat) : leV (le n k) = n % 2 ^ (8 * k) := by
 induction k with
 | zero => simp [le, leV, Int.emod_one]
 | succ k ih =>
  rw [le_succ, leV_snoc, ih, le_len, pow8]
  have hp : (0 : Int) < 2 ^ (8 * k) := Int.pow_pos (by decide)
  generalize (2 : Int) ^ (8 * k) = p at *
  have e1 := Int.emod_add_mul_ediv n p
  have e2 := Int.emod_add_mul_ediv (n / p) 256
  have hd : n / (256 * p) = n / p / 256 := by rw [Int.mul_comm, Int.ediv_ediv_of_nonneg (Int.le_of_lt hp)]
  have e3 := Int.emod_add_mul_ediv n (256 * p)
  rw [hd] at e3
  have : p * (n / p) = p * (n / p % 256) + 256 * p * (n / p / 256) := by
   conv => lhs; rw [← e2]
   rw [Int.mul_add, ← Int.mul_assoc, Int.mul_comm p 256]
  omega
end
section
open Go.RowKit
section
variable {P : Program} {w : World} {dT sT elem t : TypeId} {g n c : Nat} {A : Option Addr} {cur : Array Value} {cs : List Value}
theorem setCells_blk_from {w : World} {g : Nat} {t : TypeId} : ∀ (vs : List Value) (o : Nat) (w : World) (cur : Array Value), Blk w g t cur → o + vs.length = cur.size → Blk (w.setCells g o vs) g t ((cur.toList.take o ++ vs).toArray)
 | [], o, w, cur, h, ho => by
  rw [List.append_nil, List.take_of_length_le (by simp at ho; simp; omega)]
  simpa [World.setCells] using h
 | v :: r, o, w, cur, h, ho => by
  have h1 := setCells_blk_from (w := w) r (o + 1) _ _ (h.set_ o v) (by simp at ho ⊢; omega)
  have e : (cur.setIfInBounds o v).toList.take (o + 1) ++ r = cur.toList.take o ++ v :: r := by
   rw [List.length_cons] at ho
   rw [Array.toList_setIfInBounds, List.take_set, List.take_succ_eq_append_getElem (by simp; omega), List.set_append_right _ _ (by simp; omega)]
   simp
   rw [Nat.min_eq_left (by omega), Nat.sub_self]
   rfl
  rw [e] at h1
  exact h1
theorem setCells_blk {w : World} {g : Nat} {t : TypeId} {cur : Array Value} (h : Blk w g t cur) (cs : Array Value) (hs : cs.size = cur.size) : Blk (w.setCells g 0 cs.toList) g t cs := by
 have h1 := setCells_blk_from (w := w) cs.toList 0 w cur h (by simpa using hs)
 simpa using h1
theorem setCells_fr {g : Nat} : ∀ (vs : List Value) (o : Nat) (w : World), Fr (fun k => k = g) w (w.setCells g o vs)
 | [], _, w => Fr.refl _ _
 | v :: r, o, w => ((Fr.refl (fun k => k = g) w).setCell (.inr rfl) v).trans (setCells_fr r (o + 1) _) (fun _ _ e => e)
end
section
attribute [local go_sem ↓] Go.wp_at_zero Go.wp_at_succ
structure WrR (w : World) (b : Nat) (v : Value) (bs : List Int) : Prop where
 blk : Blk w b 168 #[v]
 own : w.ownsRow 0 5 1 v bs.length (bytes bs)
theorem WrR.fr {S : Nat → Prop} {w w' : World} {b : Nat} {v : Value} {bs : List Int} (h : WrR w b v bs) (hf : Fr S w w') (hb : ¬ S b) (hv : ∀ k, v.ownBlock = some k → ¬ S k) : WrR w' b v bs := ⟨h.blk.fr hf hb, own_fr h.own hf hv⟩
theorem WrR.nil {w w' : World} {b : Nat} {v : Value} {bs : List Int} (h : WrR w b v bs) (hf : Fr Nil w w') : WrR w' b v bs := h.fr hf (fun e => e) (fun _ _ e => e)
end
section
attribute [local go_sem ↓] Go.wp_at_zero Go.wp_at_succ
structure RdR (w : World) (r : Nat) (A : Option Addr) (n cap : Nat) (rest : List Int) (live : Bool) : Prop where
 blk : Blk w r 201 #[.slice A n cap, .bool live]
 reads : Reads w 1 A n (bytes rest)
 le : n ≤ cap
 big : cap ≤ maxLen
def Next (w' : World) (r : Nat) (A : Option Addr) (rest : List Int) : Prop := ∃ A' n cap, RdR w' r A' n cap rest true ∧ ∀ g, blockOf A' = some g → blockOf A = some g
theorem Next.up {w' : World} {r : Nat} {A A1 : Option Addr} {rest : List Int} (h : Next w' r A1 rest) (hA : ∀ g, blockOf A1 = some g → blockOf A = some g) : Next w' r A rest := by
 obtain ⟨A', n, cap, h1, h2⟩ := h
 exact ⟨A', n, cap, h1, fun g hg => hA g (h2 g hg)⟩
def stopV (c : Int) : Value := .iface 203 (.agg #[.int .i64 c])
theorem stop_eql (c : Int) (w : World) : (binOp .eql 20 (.iface 203 (.agg #[.int .i64 c])) .nilIface).run Tryz.prog w = .ok (.bool false) w := by kernel_rfl
theorem stop_is (c : Int) (w : World) : (Instr.typeAssert (.iface 203 (.agg #[.int .i64 c])) 20 203 true).run Tryz.prog w = .ok (.tuple #[.agg #[.int .i64 c], .bool true]) w := by kernel_rfl
theorem Read1_idle (p q r : Nat) (w : World) (h0 : w.cell? ⟨p, 0, none⟩ = some (.pointer (some ⟨r, 0, none⟩))) (h1 : w.cell? ⟨r, 1, none⟩ = some (.bool true)) (h2 : w.frozen? ⟨r, 1, none⟩ = false) :
  CallsD Tryz.prog 125 #[.pointer (some ⟨p, 0, none⟩), .pointer (some ⟨q, 0, none⟩)] .returning w fun e u' w' =>
   e = .returned (.tuple #[]) ∧ u' = .returning ∧ w' = w.setCell ⟨r, 1, none⟩ (.bool false) := by
 refine callsD_of_wpS Tryz.func125 rfl fun c₀ cs hu => ?_
 apply wpS_seq
 apply wpS_region
 simp [wpOpsS, go_sem, hu, Tryz.ntmps125, Exit.thenS, h0, h1, h2, Array.replicate, List.replicate]
 apply wpS_seq
 apply wpS_region
 simp [wpOpsS, go_sem, recoverD, hu, Exit.thenS]
 refine wpS_of_wp ?_
 go_wp2
 cases c₀
 simp_all [bodyPostS, results, Tryz.results125]
theorem Read1_stop (p q r : Nat) (c : Int) (x : Value) (older : List PanicEntry) (w : World) (h0 : w.cell? ⟨p, 0, none⟩ = some (.pointer (some ⟨r, 0, none⟩))) (h1 : w.cell? ⟨r, 1, none⟩ = some (.bool true)) (h2 : w.frozen? ⟨r, 1, none⟩ = false)
  (h3 : w.cell? ⟨q, 0, none⟩ = some x) (h4 : w.frozen? ⟨q, 0, none⟩ = false) (hqr : q ≠ r) (hq : q < w.heap.size) :
  CallsD Tryz.prog 125 #[.pointer (some ⟨p, 0, none⟩), .pointer (some ⟨q, 0, none⟩)] (.panicking ({ v := stopV c, recovered := false } :: older)) w fun e u' w' =>
   e = .returned (.tuple #[]) ∧ u' = .panicking ({ v := stopV c, recovered := true } :: older) ∧ w' = ((w.setCell ⟨r, 1, none⟩ (.bool false)).setCell ⟨q, 0, none⟩ (.int .i64 c)).alloc (.cells #[.int .i64 c] 203) := by
 refine callsD_of_wpS Tryz.func125 rfl fun c₀ cs hu => ?_
 unfold stopV at hu
 have g1 := stop_eql c
 have g2 := stop_is c
 apply wpS_seq
 apply wpS_region
 simp [wpOpsS, go_sem, hu, Tryz.ntmps125, Exit.thenS, h0, h1, h2, Array.replicate, List.replicate]
 apply wpS_seq
 apply wpS_region
 simp [wpOpsS, go_sem, recoverD, hu, Exit.thenS]
 refine wpS_of_wp ?_
 clear hu
 go_wp2_with fail
 exact ⟨rfl, _, rfl, .tuple #[], by simp [results, Tryz.results125], rfl, rfl, rfl⟩
theorem func_nil (f : Fn) (a b : Array Value) (w : World) : (binOp .eql 166 (.func f a b) .nilFunc).run Tryz.prog w = .ok (.bool false) w := by kernel_rfl
def Left (w1 : World) (r : Nat) (rest : List Int) (U : Nat → Prop) (G : World → Prop) (e : Ending) (w2 : World) : Prop :=
 e = .returned (.tuple #[]) ∧ (∃ A n cap, RdR w2 r A n cap rest true) ∧ Fr (fun k => k = r ∨ U k) w1 w2 ∧ G w2
def Died (w1 : World) (r : Nat) (c : Int) (U : Nat → Prop) (G : World → Prop) (e : Ending) (w2 : World) : Prop :=
 e = .panicked [{ v := stopV c, recovered := false }] ∧ (∃ s, Blk w2 r 201 #[s, .bool true]) ∧ Fr (fun k => k = r ∨ U k) w1 w2 ∧ G w2
def Mine (w : World) : Nat → Prop := fun k => k = w.heap.size ∨ k = w.heap.size + 1
def endCode (rest : List Int) : Int := if rest = [] then 0 else 27
theorem len_of_reads {w : World} {A : Option Addr} {n : Nat} {bs : List Int} (h : Reads w 1 A n (bytes bs)) : bs.length = n := by have := h.1; simpa [bytes] using this
theorem Read_left4 {w : World} {A : Option Addr} {n cap : Nat} {bs rest : List Int} {f : Nat} {caps : Array Value} {U : Nat → Prop} {G : World → Prop} (hcall : ∀ args w, (callFunc f args).run Tryz.prog w = .ok (.enter f args) w)
  (hr : Reads w 1 A n (bytes bs)) (hle : n ≤ cap) (hbig : cap ≤ maxLen) (hU : ∀ k, U k → k < w.heap.size)
  (hbody : ∀ (w1 : World), Fr Nil w w1 → w1.heap.size = w.heap.size + 3 → RdR w1 (w.heap.size + 1) A n cap bs true → Calls Tryz.prog f (#[.pointer (some ⟨w.heap.size + 1, 0, none⟩)] ++ caps) w1 (Left w1 (w.heap.size + 1) rest U G))
  (hG : ∀ w2 w', Fr (Mine w) w2 w' → G w2 → G w') :
  Calls Tryz.prog 86 #[.slice A n cap, .func (.func f) #[] caps] w fun e w' => e = .returned (.int .i64 (endCode rest)) ∧ Fr U w w' ∧ G w' ∧ ∃ s, Blk w' (w.heap.size + 1) 201 #[s, .bool false] := by
 have hmf : ∀ (fn : Fn) (first cap : Array Value) (w : World), (Instr.makeFunc fn first cap).run Tryz.prog w = .ok (.func fn first cap) w := fun _ _ _ _ => rfl
 have hnf := func_nil (.func f) #[] caps
 go_enter_defers Tryz.func86, Tryz.ntmps86
 go_wp2_with fail
 have hF1 : Fr Nil w (((w.alloc (.cells #[.int .i64 0] 42)).alloc (.cells #[.slice A n cap, .bool true] 201)).alloc (.cells #[.pointer (some ⟨w.heap.size + 1, 0, none⟩)] 161)) := (((Fr.refl Nil w).alloc _).alloc _).alloc _
 have hB0 : Blk (((w.alloc (.cells #[.int .i64 0] 42)).alloc (.cells #[.slice A n cap, .bool true] 201)).alloc (.cells #[.pointer (some ⟨w.heap.size + 1, 0, none⟩)] 161)) w.heap.size 42 #[.int .i64 0] := ((Blk.new w _ _).alloc _).alloc _
 have hB1 : Blk (((w.alloc (.cells #[.int .i64 0] 42)).alloc (.cells #[.slice A n cap, .bool true] 201)).alloc (.cells #[.pointer (some ⟨w.heap.size + 1, 0, none⟩)] 161)) (w.heap.size + 1) 201 #[.slice A n cap, .bool true] := by
  have h := (Blk.new (w.alloc (.cells #[.int .i64 0] 42)) 201 #[.slice A n cap, .bool true]).alloc (.cells #[.pointer (some ⟨w.heap.size + 1, 0, none⟩)] 161)
  simpa using h
 have hB2 : Blk (((w.alloc (.cells #[.int .i64 0] 42)).alloc (.cells #[.slice A n cap, .bool true] 201)).alloc (.cells #[.pointer (some ⟨w.heap.size + 1, 0, none⟩)] 161)) (w.heap.size + 1 + 1) 161 #[.pointer (some ⟨w.heap.size + 1, 0, none⟩)] := by
  have h := Blk.new ((w.alloc (.cells #[.int .i64 0] 42)).alloc (.cells #[.slice A n cap, .bool true] 201)) 161 #[.pointer (some ⟨w.heap.size + 1, 0, none⟩)]
  simpa using h
 have hz : (((w.alloc (.cells #[.int .i64 0] 42)).alloc (.cells #[.slice A n cap, .bool true] 201)).alloc (.cells #[.pointer (some ⟨w.heap.size + 1, 0, none⟩)] 161)).heap.size = w.heap.size + 3 := by simp
 have hb := hbody _ hF1 hz ⟨hB1, hr.fr hF1 (fun _ _ e => e), hle, hbig⟩
 rw [show #[Value.pointer (some ⟨w.heap.size + 1, 0, none⟩)] ++ caps = (#[] : Array Value).push (Value.pointer (some ⟨w.heap.size + 1, 0, none⟩)) ++ caps from rfl] at hb
 generalize ((w.alloc (.cells #[.int .i64 0] 42)).alloc (.cells #[.slice A n cap, .bool true] 201)).alloc (.cells #[.pointer (some ⟨w.heap.size + 1, 0, none⟩)] 161) = w1 at *
 refine hb.mono ?_; rintro e w2 ⟨rfl, ⟨A2, n2, c2, hR2⟩, hF2, hG2⟩
 have hC0 := hB0.fr hF2 (by rintro (h | h); omega; have := hU _ h; omega)
 have hC2 := hB2.fr hF2 (by rintro (h | h); omega; have := hU _ h; omega)
 have c0 := hC2.cell 0
 have c1 := hR2.blk.cell 0
 have c3 := hR2.blk.cell 1
 have c4 := hR2.blk.frozen 1
 have c5 := hC0.cell 0
 have c6 := hC0.frozen 0
 simp at c0 c1 c3 c5
 have hln := len_of_reads hR2.reads
 have hkept : ∀ x : Int, Blk ((w2.setCell ⟨w.heap.size, 0, none⟩ (.int .i64 x)).setCell ⟨w.heap.size + 1, 1, none⟩ (.bool false)) (w.heap.size + 1) 201 #[.slice A2 n2 c2, .bool false] := fun x => by
  have h := ((hR2.blk.far (p := ⟨w.heap.size, 0, none⟩) (by simp) (.int .i64 x)).set_ 1 (.bool false))
  simpa using h
 by_cases hrest : rest = []
 ·have hn2 : n2 = 0 := by rw [← hln, hrest]; rfl
  subst hn2
  clear hln
  go_wp2
  refine leaves_cons (f := 125) (args := #[.pointer (some ⟨w.heap.size + 1 + 1, 0, none⟩), .pointer (some ⟨w.heap.size, 0, none⟩)]) (by simp) (by simp [go_sem]) ?_; refine (Read1_idle (w.heap.size + 1 + 1) w.heap.size (w.heap.size + 1) _ (by simp [go_sem, c0]) (by simp [go_sem, c3]) (by simp [go_sem, c4])).mono ?_; rintro e u' w'' ⟨rfl, rfl, rfl⟩
  refine ⟨.int .i64 0, by simp [results, Tryz.results86, go_sem, c5], ?_, ?_, ?_, _, hkept 0⟩
  ·simp [endCode, hrest]
  ·refine (hF1.mono (fun _ _ e => False.elim e)).trans (T := fun k => k = w.heap.size + 1 ∨ U k ∨ k = w.heap.size) (((hF2.mono (by rintro k _ (h | h); exact .inl h; exact .inr (.inl h))).setCell (.inr (.inr (.inr rfl))) _).setCell (.inr (.inl rfl)) _) ?_
   rintro k hk (h | h | h)
   ·omega
   ·exact h
   ·omega
  ·exact hG _ _ (((Fr.refl (Mine w) w2).setCell (.inr (.inl rfl)) _).setCell (.inr (.inr rfl)) _) hG2
 ·have hn2 : (0 : Int) < (n2 : Int) := by
   have : 0 < rest.length := List.length_pos_iff.2 hrest
   omega
  clear hln
  go_wp2
  refine leaves_cons (f := 125) (args := #[.pointer (some ⟨w.heap.size + 1 + 1, 0, none⟩), .pointer (some ⟨w.heap.size, 0, none⟩)]) (by simp) (by simp [go_sem]) ?_; refine (Read1_idle (w.heap.size + 1 + 1) w.heap.size (w.heap.size + 1) _ (by simp [go_sem, c0]) (by simp [go_sem, c3]) (by simp [go_sem, c4])).mono ?_; rintro e u' w'' ⟨rfl, rfl, rfl⟩
  refine ⟨.int .i64 27, by simp [results, Tryz.results86, go_sem, c5], ?_, ?_, ?_, _, hkept 27⟩
  ·simp [endCode, hrest]
  ·refine (hF1.mono (fun _ _ e => False.elim e)).trans (T := fun k => k = w.heap.size + 1 ∨ U k ∨ k = w.heap.size) (((hF2.mono (by rintro k _ (h | h); exact .inl h; exact .inr (.inl h))).setCell (.inr (.inr (.inr rfl))) _).setCell (.inr (.inl rfl)) _) ?_
   rintro k hk (h | h | h)
   ·omega
   ·exact h
   ·omega
  ·exact hG _ _ (((Fr.refl (Mine w) w2).setCell (.inr (.inl rfl)) _).setCell (.inr (.inr rfl)) _) hG2
theorem Read_left {w : World} {A : Option Addr} {n cap : Nat} {bs rest : List Int} {f : Nat} {caps : Array Value} {U : Nat → Prop} {G : World → Prop} (hcall : ∀ args w, (callFunc f args).run Tryz.prog w = .ok (.enter f args) w)
  (hr : Reads w 1 A n (bytes bs)) (hle : n ≤ cap) (hbig : cap ≤ maxLen) (hU : ∀ k, U k → k < w.heap.size)
  (hbody : ∀ (w1 : World), Fr Nil w w1 → w1.heap.size = w.heap.size + 3 → RdR w1 (w.heap.size + 1) A n cap bs true → Calls Tryz.prog f (#[.pointer (some ⟨w.heap.size + 1, 0, none⟩)] ++ caps) w1 (Left w1 (w.heap.size + 1) rest U G))
  (hG : ∀ w2 w', Fr (Mine w) w2 w' → G w2 → G w') :
  Calls Tryz.prog 86 #[.slice A n cap, .func (.func f) #[] caps] w fun e w' => e = .returned (.int .i64 (endCode rest)) ∧ Fr U w w' ∧ G w' := (Read_left4 hcall hr hle hbig hU hbody hG).mono fun e w' h => ⟨h.1, h.2.1, h.2.2.1⟩
theorem Read_died {w : World} {A : Option Addr} {n cap : Nat} {bs : List Int} {c : Int} {f : Nat} {caps : Array Value} {U : Nat → Prop} {G : World → Prop} (hcall : ∀ args w, (callFunc f args).run Tryz.prog w = .ok (.enter f args) w)
  (hr : Reads w 1 A n (bytes bs)) (hle : n ≤ cap) (hbig : cap ≤ maxLen) (hU : ∀ k, U k → k < w.heap.size)
  (hbody : ∀ (w1 : World), Fr Nil w w1 → w1.heap.size = w.heap.size + 3 → RdR w1 (w.heap.size + 1) A n cap bs true → Calls Tryz.prog f (#[.pointer (some ⟨w.heap.size + 1, 0, none⟩)] ++ caps) w1 (Died w1 (w.heap.size + 1) c U G))
  (hG : ∀ w2 w', Fr (Mine w) w2 w' → G w2 → G w') :
  Calls Tryz.prog 86 #[.slice A n cap, .func (.func f) #[] caps] w fun e w' => e = .returned (.int .i64 (c)) ∧ Fr U w w' ∧ G w' := by
 have hmf : ∀ (fn : Fn) (first cap : Array Value) (w : World), (Instr.makeFunc fn first cap).run Tryz.prog w = .ok (.func fn first cap) w := fun _ _ _ _ => rfl
 have hnf := func_nil (.func f) #[] caps
 go_enter_defers Tryz.func86, Tryz.ntmps86
 go_wp2_with fail
 have hF1 : Fr Nil w (((w.alloc (.cells #[.int .i64 0] 42)).alloc (.cells #[.slice A n cap, .bool true] 201)).alloc (.cells #[.pointer (some ⟨w.heap.size + 1, 0, none⟩)] 161)) := (((Fr.refl Nil w).alloc _).alloc _).alloc _
 have hB0 : Blk (((w.alloc (.cells #[.int .i64 0] 42)).alloc (.cells #[.slice A n cap, .bool true] 201)).alloc (.cells #[.pointer (some ⟨w.heap.size + 1, 0, none⟩)] 161)) w.heap.size 42 #[.int .i64 0] := ((Blk.new w _ _).alloc _).alloc _
 have hB1 : Blk (((w.alloc (.cells #[.int .i64 0] 42)).alloc (.cells #[.slice A n cap, .bool true] 201)).alloc (.cells #[.pointer (some ⟨w.heap.size + 1, 0, none⟩)] 161)) (w.heap.size + 1) 201 #[.slice A n cap, .bool true] := by
  have h := (Blk.new (w.alloc (.cells #[.int .i64 0] 42)) 201 #[.slice A n cap, .bool true]).alloc (.cells #[.pointer (some ⟨w.heap.size + 1, 0, none⟩)] 161)
  simpa using h
 have hB2 : Blk (((w.alloc (.cells #[.int .i64 0] 42)).alloc (.cells #[.slice A n cap, .bool true] 201)).alloc (.cells #[.pointer (some ⟨w.heap.size + 1, 0, none⟩)] 161)) (w.heap.size + 1 + 1) 161 #[.pointer (some ⟨w.heap.size + 1, 0, none⟩)] := by
  have h := Blk.new ((w.alloc (.cells #[.int .i64 0] 42)).alloc (.cells #[.slice A n cap, .bool true] 201)) 161 #[.pointer (some ⟨w.heap.size + 1, 0, none⟩)]
  simpa using h
 have hz : (((w.alloc (.cells #[.int .i64 0] 42)).alloc (.cells #[.slice A n cap, .bool true] 201)).alloc (.cells #[.pointer (some ⟨w.heap.size + 1, 0, none⟩)] 161)).heap.size = w.heap.size + 3 := by simp
 have hb := hbody _ hF1 hz ⟨hB1, hr.fr hF1 (fun _ _ e => e), hle, hbig⟩
 rw [show #[Value.pointer (some ⟨w.heap.size + 1, 0, none⟩)] ++ caps = (#[] : Array Value).push (Value.pointer (some ⟨w.heap.size + 1, 0, none⟩)) ++ caps from rfl] at hb
 generalize ((w.alloc (.cells #[.int .i64 0] 42)).alloc (.cells #[.slice A n cap, .bool true] 201)).alloc (.cells #[.pointer (some ⟨w.heap.size + 1, 0, none⟩)] 161) = w1 at *
 refine hb.mono ?_; rintro e w2 ⟨rfl, ⟨s, hR2⟩, hF2, hG2⟩
 have hC0 := hB0.fr hF2 (by rintro (h | h); omega; have := hU _ h; omega)
 have hC2 := hB2.fr hF2 (by rintro (h | h); omega; have := hU _ h; omega)
 have c0 := hC2.cell 0
 have c3 := hR2.cell 1
 have c4 := hR2.frozen 1
 have c5 := hC0.cell 0
 have c6 := hC0.frozen 0
 have hlt := hC0.lt
 simp at c0 c3 c5
 show bodyPostD _ _ _ _ _ _
 refine leaves_cons (f := 125) (args := #[.pointer (some ⟨w.heap.size + 1 + 1, 0, none⟩), .pointer (some ⟨w.heap.size, 0, none⟩)]) (by simp) (by simp [go_sem]) ?_; refine (Read1_stop (w.heap.size + 1 + 1) w.heap.size (w.heap.size + 1) c _ [] _ c0 c3 c4 c5 c6 (by omega) hlt).mono ?_; rintro e u' w'' ⟨rfl, rfl, rfl⟩
 have hfin := (((hC0.far (p := ⟨w.heap.size + 1, 1, none⟩) (by simp) (.bool false)).set_ 0 (.int .i64 c)).alloc (.cells #[.int .i64 c] 203)).cell 0
 simp at hfin
 refine ⟨.int .i64 c, by simp [results, Tryz.results86, go_sem, hfin], ?_, ?_, ?_⟩
 ·rfl
 ·refine (hF1.mono (fun _ _ e => False.elim e)).trans (T := fun k => k = w.heap.size + 1 ∨ U k ∨ k = w.heap.size) ((((hF2.mono (by rintro k _ (h | h); exact .inl h; exact .inr (.inl h))).setCell (.inr (.inl rfl)) _).setCell (.inr (.inr (.inr rfl))) _).alloc _) ?_
  rintro k hk (h | h | h)
  ·omega
  ·exact h
  ·omega
 ·exact hG _ _ ((((Fr.refl (Mine w) w2).setCell (.inr (.inr rfl)) _).setCell (.inr (.inl rfl)) _).alloc _) hG2
end
section
attribute [local go_sem ↓] Go.wp_at_zero Go.wp_at_succ
theorem Fail_stop {w : World} {r : Nat} {s : Value} (h : Blk w r 201 #[s, .bool true]) (c : Int) (hc : (c == 0) = false) :
  Calls Tryz.prog 96 #[.pointer (some ⟨r, 0, none⟩), .int .i64 c] w fun e w' => e = .panicked [{ v := stopV c, recovered := false }] ∧ w = w' := by
 have c1 := h.cell 1
 simp at c1
 have hc' : ¬ c = 0 := by simpa using hc
 go_enter Tryz.func96, Tryz.ntmps96
 go_wp2
 exact ⟨rfl, rfl, rfl⟩
theorem reads_ne {w : World} {A : Option Addr} {n g : Nat} {rest : List Int} {t : TypeId} {cs : Array Value} (h : Reads w 1 A n (bytes rest)) (hn : 0 < n) (hb : Blk w g t cs) (hc : ∀ u ∈ cs.toList, ∀ z, u ≠ .int .u8 z) : blockOf A ≠ some g := by
 intro e
 obtain ⟨ad, rfl, hce⟩ := h.2 hn
 have hl : 0 < (bytes rest).length := by rw [h.1]; omega
 have h0 := hce 0 _ (List.getElem?_eq_getElem hl)
 have hbk : ad.block = g := Option.some.inj e
 have hsp : ad.add 0 = ad := by simp [Addr.add]
 rw [hsp] at h0
 unfold Blk at hb
 unfold World.cell? at h0
 rw [hbk, hb] at h0
 simp only at h0
 split at h0
 ·cases h0
 ·have hu : (bytes rest)[0] = .int .u8 (rest[0]'(by simpa [bytes] using hl)) := by simp [bytes]
  rw [hu] at h0
  exact hc _ (by rw [← Array.getElem?_toList] at h0; exact List.mem_of_getElem? h0) _ rfl
theorem RdR.ne {w : World} {r : Nat} {A : Option Addr} {n cap : Nat} {rest : List Int} {live : Bool} (h : RdR w r A n cap rest live) (hn : 0 < n) : ∀ g, blockOf A = some g → g ≠ r := by
 rintro g hg rfl
 exact reads_ne h.reads hn h.blk (by intro u hu z; simp at hu; rcases hu with rfl | rfl <;> simp) hg
theorem RdR.other {w : World} {r g : Nat} {A : Option Addr} {n cap : Nat} {rest : List Int} {live : Bool} {t : TypeId} {cs : Array Value} (h : RdR w r A n cap rest live) (hb : Blk w g t cs) (hc : ∀ u ∈ cs.toList, ∀ z, u ≠ .int .u8 z) (hgr : g ≠ r)
  {w' : World} (hf : Fr (fun k => k = g) w w') : RdR w' r A n cap rest live := by
 refine ⟨h.blk.fr hf (Ne.symm hgr), ?_, h.le, h.big⟩
 rcases Nat.eq_zero_or_pos n with h0 | h0
 ·subst h0
  have : rest = [] := List.eq_nil_of_length_eq_zero (len_of_reads h.reads)
  rw [this]; exact Reads.nil_ _
 ·exact h.reads.fr hf (by
    rintro k hk rfl
    exact reads_ne h.reads h0 hb hc hk)
end
section
variable {P : Program}
theorem run_loadVar_at (w : World) (a : Addr) (ty : TypeId) (cs : List Value) (d : TypeDesc) (hc : ∀ j v, cs[j]? = some v → w.cell? (a.add j) = some v)
  (hu : P.underlying ty = some d) (hd : (match d with | .struct _ | .array _ _ => true | _ => false) = true) (hi : (P.info? ty).map (·.size) = some cs.length) :
  (loadVar ty a).run P w = .ok (.agg cs.toArray) w := by
 have hl := run_loadCells_list (P := P) w a cs hc
 cases hq : P.info? ty with
 | none => simp [hq] at hi
 | some i =>
  have hs : i.size = cs.length := by simpa [hq] using hi
  have hagg : (isAgg ty).run P w = .ok true w := by
   unfold isAgg
   rw [Sem.run_bind, run_underlying hu w]
   cases d <;> simp_all
  simp [loadVar, Sem.run_bind, hagg, sizeOf, typeInfo, hq, hs, hl]
end
end
section
open Go.RowKit Go.ChangeShapes Go.WideShapes Go.Deep
section
variable {H : Type} {enc : TypeId × Value → H} {P : Program} {w : World} {base : Nat} {spare : Nat → Bool} {held : Bool} {fuel : Nat} {t e : TypeId} {cs : List Value} {x : DataW H × List MemPlace}
def BytesIs (w : World) (v : Value) (bs : List Int) : Prop := ∃ A n c, v = .slice A n c ∧ Reads w 1 A n (bytes bs) ∧ IsBytes bs ∧ n ≤ c ∧ c ≤ maxLen
theorem open_bytes (ht : P.underlying t = some (.slice e)) (he : P.underlying e = some (.int .u8)) (hc : P.cellsOf e = 1) (h : DataW.trod enc P w base spare held fuel t cs = some x) : ∃ v bs, cs = [v] ∧ BytesIs w v bs := by
 rcases open_ints ht he hc h with ⟨rfl, _⟩ | ⟨a, len, cap, zs, rfl, _, hl, hm, hz, _, hcell, hw⟩
 ·exact ⟨_, [], rfl, ⟨none, 0, 0, rfl, Reads.nil_ _, (by intro y hy; cases hy), Nat.le_refl _, Nat.zero_le _⟩⟩
 ·have hlz : len ≤ zs.length := by rw [hz]; split <;> omega
  refine ⟨_, zs.take len, rfl, ⟨some a, len, cap, rfl, ⟨by simp [bytes]; omega, fun _ => ⟨a, rfl, fun j u hu => ?_⟩⟩, ?_, hl, hm⟩⟩
  ·have hj : j < len := by
    have := (List.getElem?_eq_some_iff.1 hu).1
    simp [bytes] at this
    omega
   rw [hcell j (by omega)]
   simp [bytes, List.getElem?_take, hj, List.getElem?_eq_getElem (show j < zs.length by omega)] at hu
   rw [← hu]
   simp [List.getD, List.getElem?_eq_getElem (show j < zs.length by omega)]
  ·intro y hy
   have h2 : 0 ≤ y ∧ y ≤ 255 := by simpa [Lit.wf, IntKind.min, IntKind.max, IntKind.signed, IntKind.bits] using hw y (List.mem_of_mem_take hy)
   omega
end
theorem flatMap_at {X : Type} {sz : Nat} (toC : X → List Value) : ∀ (xs : List X), (∀ x ∈ xs, (toC x).length = sz) → ∀ (j : Nat) (u : Value), (xs.flatMap toC)[j]? = some u → ∃ i r x, xs[i]? = some x ∧ (toC x)[r]? = some u ∧ j = i * sz + r
 | [], _, j, u, h => by simp at h
 | x :: xs, hl, j, u, h => by
  rw [List.flatMap_cons] at h
  by_cases hj : j < (toC x).length
  ·rw [List.getElem?_append_left hj] at h
   exact ⟨0, j, x, rfl, h, by simp⟩
  ·rw [List.getElem?_append_right (by omega)] at h
   obtain ⟨i, r, y, h1, h2, h3⟩ := flatMap_at toC xs (fun y hy => hl y (List.mem_cons_of_mem _ hy)) _ u h
   have := hl x (List.mem_cons_self ..)
   refine ⟨i + 1, r, y, by simpa using h1, h2, ?_⟩
   rw [Nat.succ_mul]; omega
theorem flatMap_len {X : Type} {sz : Nat} (toC : X → List Value) (xs : List X) (hl : ∀ x ∈ xs, (toC x).length = sz) : (xs.flatMap toC).length = xs.length * sz := by
 induction xs with
 | nil => simp
 | cons x r ih => rw [List.flatMap_cons, List.length_append, ih (fun y hy => hl y (List.mem_cons_of_mem _ hy)), hl x (List.mem_cons_self ..), List.length_cons, Nat.succ_mul, Nat.add_comm]
section
variable {H : Type} {enc : TypeId × Value → H} {P : Program} {w : World} {base : Nat} {spare : Nat → Bool} {held : Bool} {fuel : Nat} {t e : TypeId} {cs : List Value} {x : DataW H × List MemPlace}
theorem open_rows {X : Type} [Inhabited X] (sz : Nat) (toC : X → List Value) (ok : X → Prop) (ht : P.underlying t = some (.slice e)) (hC : P.cellsOf e = sz)
  (hX : ∀ n cs y, DataW.trod enc P w base spare held n e cs = some y → ∃ x, cs = toC x ∧ ok x) (h : DataW.trod enc P w base spare held fuel t cs = some x) :
  ∃ (A : Option Addr) (n c : Nat) (xs : List X), cs = [.slice A n c] ∧ xs.length = n ∧ Reads w sz A n (xs.flatMap toC) ∧ (∀ x ∈ xs, ok x ∧ (toC x).length = sz) ∧ n ≤ c ∧ c ≤ maxLen := by
 rcases open_slice ht h with ⟨rfl, _⟩ | ⟨a, len, cap, m, n, D, Pl, rfl, _, hl, hm, hmm, _, hi⟩
 ·exact ⟨none, 0, 0, [], rfl, rfl, Reads.nil_ _, (fun x hx => by cases hx), Nat.le_refl _, Nat.zero_le _⟩
 ·have hlm : len ≤ m := by rw [hmm]; split <;> omega
  have hone : ∀ i, i < len → ∃ x : X, (ok x ∧ (toC x).length = sz) ∧ ∀ r u, (toC x)[r]? = some u → w.cell? (a.add (i * sz + r)) = some u := by
   intro i hil
   obtain ⟨cs', hc, ht'⟩ := hi i (by omega)
   obtain ⟨x, rfl, hx⟩ := hX _ _ _ ht'
   obtain ⟨_, hlen, hat⟩ := World.cells?_some hc
   rw [hC] at hlen hat
   refine ⟨x, ⟨hx, hlen⟩, fun r u hu => ?_⟩
   have hr : r < (toC x).length := (List.getElem?_eq_some_iff.1 hu).1
   have h1 := hat r (by omega)
   rw [Go.Deep.add_add] at h1
   rw [h1, hu]
  obtain ⟨f, hf⟩ := choose_lt hone
  have hmem : ∀ x ∈ (List.range len).map f, ok x ∧ (toC x).length = sz := by
   intro x hx
   obtain ⟨i, hi2, rfl⟩ := List.mem_map.1 hx
   exact (hf i (List.mem_range.1 hi2)).1
  refine ⟨some a, len, cap, (List.range len).map f, rfl, by simp, ⟨by rw [flatMap_len toC _ (fun x hx => (hmem x hx).2)]; simp, fun _ => ⟨a, rfl, fun j u hu => ?_⟩⟩, hmem, hl, hm⟩
  obtain ⟨i, r, x, h1, h2, rfl⟩ := flatMap_at toC _ (fun x hx => (hmem x hx).2) j u hu
  have hil : i < len := by have := (List.getElem?_eq_some_iff.1 h1).1; simpa using this
  simp [hil] at h1
  subst h1; exact (hf i hil).2 r u h2
end
section
variable {H : Type} {enc : TypeId × Value → H} {P : Program} {w : World} {base : Nat} {spare : Nat → Bool} {held : Bool} {fuel : Nat} {t e : TypeId} {cs : List Value} {x : DataW H × List MemPlace}
theorem open_struct {fs : Array Field} (ht : P.underlying t = some (.struct fs)) (h : DataW.trod enc P w base spare held fuel t cs = some x) : cs.length = P.cellsOf t ∧ ∃ m, ∀ (i : Nat) (f : Field), fs[i]? = some f → ∃ y, DataW.trod enc P w base spare held m f.type ((cs.drop f.offset).take (P.cellsOf f.type)) = some y := by
 obtain ⟨xs, m, _, _, hlen, hyl, hf⟩ := DataW.trod_struct ht h
 refine ⟨hlen, m, fun i f hi => ?_⟩
 have hil : i < xs.length := by rw [hyl]; exact (Array.getElem?_eq_some_iff.1 hi).1
 exact ⟨xs[i], by rw [hf i f hi, List.getElem?_eq_getElem hil]⟩
theorem piece {cs : List Value} (a n b : Nat) (hb : a + n = b) : cs.drop a = (cs.drop a).take n ++ cs.drop b := by
 subst hb; rw [← List.drop_drop, List.take_append_drop]
theorem piece_end {cs : List Value} {n : Nat} (h : cs.length = n) : cs.drop n = [] := List.drop_of_length_le (Nat.le_of_eq h)
end
theorem okWide_str {P : Program} {w : World} {r : Reach} {base : Nat} {t : TypeId} {fs : Array Field} {v : Value} (ht : P.underlying t = some (.struct fs)) (h : Value.okWide P w r base t v) : ∃ cs, v = .agg cs := by
 simp only [Value.okWide, ht] at h
 obtain ⟨cs, h, _⟩ := h
 exact ⟨cs, h⟩
end
end Go.Proofs.YtocaabnbmcpjmaaGreat
