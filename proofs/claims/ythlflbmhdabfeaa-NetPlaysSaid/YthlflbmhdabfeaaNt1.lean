/- NetPlays: the law's own queue beside the net's. No program is walked. -/
import Derived.Test.YthlflbmhdabfeaaNet7
import Derived.Test.YthlflbmhdabfeaaOp
import Derived.Test.YthlflbmhdabfeaaAt
namespace Go.Proofs.Ythlflbmhdabfeaa
open Go.RowKit

def key (x : Lt) : Int × Int × List Int := (x.f, x.t, x.bs)
/-- Block g holds bytes. -/
def U8 (w : World) (g : Nat) : Prop := ∃ cs, Blk w g 5 cs
theorem U8.fr {S : Nat → Prop} {w w' : World} {g : Nat} (h : U8 w g) (hf : Fr S w w') (hn : ¬ S g) : U8 w' g := by
  obtain ⟨cs, h⟩ := h
  exact ⟨cs, h.fr hf hn⟩
theorem U8.lt {w : World} {g : Nat} (h : U8 w g) : g < w.heap.size := by
  obtain ⟨cs, h⟩ := h
  exact h.lt
theorem U8.ne {w : World} {g g' : Nat} {t : TypeId} {cs : Array Value} (h : U8 w g) (h' : Blk w g' t cs) (ht : 5 ≠ t) : g ≠ g' := by
  obtain ⟨_, h⟩ := h
  exact Blk.ne_ h h' ht
theorem U8.own {w : World} {g n size base : Nat} {t : TypeId} {v : Value} {xs : List Value} (h : U8 w g) (h' : w.ownsRow base t size v n xs) (ht : 5 ≠ t) : v.ownBlock ≠ some g := by
  intro hg
  obtain ⟨_, _, _, hb, _⟩ := own_blk h' hg
  exact h.ne hb ht rfl
theorem U8.of_own {w : World} {n cap base : Nat} {A : Option Addr} {xs : List Value} (h : w.ownsRow base 5 1 (.slice A n cap) n xs) {g : Nat} (hg : blockOf A = some g) : U8 w g := by
  obtain ⟨_, cs, _, hb, _⟩ := own_blk h (own_of_blockOf hg)
  exact ⟨cs, hb⟩

theorem Lt.one (x : Lt) : ∀ v ∈ x.cells, v.oneCell' = true := by
  intro v hv
  simp only [Lt.cells, List.mem_cons, List.not_mem_nil, or_false] at hv
  rcases hv with rfl | rfl | rfl <;> rfl
/-- The law's queue qv holds the letters qs; it shares nothing with the net at b. -/
structure Qs (w : World) (b : Nat) (v qv : Value) (ls qs : List Lt) : Prop where
  own : w.ownsRow 0 29 3 qv qs.length (flat qs)
  lets : ∀ x ∈ qs, Reads w 1 x.A x.m (bytes x.bs) ∧ ∀ g, blockOf x.A = some g → U8 w g
  apart : ∀ g, qv.ownBlock = some g → v.ownBlock ≠ some g
  far : ∀ x ∈ ls, ∀ g, blockOf x.A = some g → qv.ownBlock ≠ some g

theorem Qs.nil {w w' : World} {b : Nat} {v qv : Value} {ls qs : List Lt} (h : Qs w b v qv ls qs) (hF : Fr Nil w w') : Qs w' b v qv ls qs :=
  ⟨own_fr h.own hF (fun _ _ e => e), fun x hx => ⟨(h.lets x hx).1.fr hF (fun _ _ e => e), fun g hg => ((h.lets x hx).2 g hg).fr hF (fun e => e)⟩, h.apart, h.far⟩

/-- The net has turned. -/
theorem Qs.net {w w' : World} {b : Nat} {v v' qv : Value} {ls ls' qs : List Lt} {s c l : Int} (h : Qs w b v qv ls qs) (hN : NetR w b v ls s c l) (hF : Fr (NetS b v) w w') (hM : Moved w v v')
    (hl : ∀ x ∈ ls', x ∈ ls ∨ ∀ g, blockOf x.A = some g → w.heap.size ≤ g) : Qs w' b v' qv ls' qs := by
  have hu : ∀ g, U8 w g → ¬ NetS b v g := by
    rintro g hg (rfl | e)
    · exact hg.ne hN.blk (by decide) rfl
    · exact hg.own hN.own (by decide) e
  refine ⟨own_fr h.own hF ?_, fun x hx => ⟨(h.lets x hx).1.fr hF (fun g hg => hu g ((h.lets x hx).2 g hg)), fun g hg => ((h.lets x hx).2 g hg).fr hF (hu g ((h.lets x hx).2 g hg))⟩, fun g hg e => ?_, fun x hx g hg e => ?_⟩
  · rintro k hk (rfl | e)
    · exact own_ne h.own hN.blk (by decide) hk
    · exact h.apart k hk e
  · have hlt := own_lt h.own hg
    rcases hM g e with e | e
    · exact h.apart g hg e
    · omega
  · have hlt := own_lt h.own e
    rcases hl x hx with h1 | h1
    · exact h.far x h1 g hg e
    · have := h1 g hg
      omega

/-- Into the law's queue alone something was appended. -/
theorem Qs.push {w w' : World} {b n : Nat} {v qv qv' : Value} {ls qs : List Lt} {s c l : Int} {y : Lt} (hn : qs.length = n) (h : Qs w b v qv ls qs) (hN : NetR w b v ls s c l) (hg : w.grownBy w' qv.ownBlock)
    (hown : w'.ownsRow 0 29 3 qv' (n + 1) (flat qs ++ y.cells)) (hat : qv'.ownBlock = qv.ownBlock ∨ qv'.ownBlock = some w.heap.size)
    (hy : Reads w 1 y.A y.m (bytes y.bs) ∧ ∀ g, blockOf y.A = some g → U8 w g) :
    NetR w' b v ls s c l ∧ Qs w' b v qv' ls (qs ++ [y]) ∧ Fr (fun k => qv.ownBlock = some k) w w' := by
  subst hn
  have hF : Fr (fun k => qv.ownBlock = some k) w w' := (Fr.refl _ _).grown hg (fun k hk _ => hk)
  have hq : ∀ g, U8 w g → ¬ qv.ownBlock = some g := fun g hg e => hg.own h.own (by decide) e
  refine ⟨hN.fr hF (fun e => own_ne h.own hN.blk (by decide) e) (fun k hk e => h.apart k e hk) (fun x hx g hg e => h.far x hx g hg e), ⟨?_, fun x hx => ?_, fun g hg' e => ?_, fun x hx g hg' e => ?_⟩, hF⟩
  · rw [flat_app, List.length_append, show flat [y] = y.cells from by simp [flat]]
    exact hown
  · have hxy : Reads w 1 x.A x.m (bytes x.bs) ∧ ∀ g, blockOf x.A = some g → U8 w g := by
      rcases List.mem_append.1 hx with h1 | h1
      · exact h.lets x h1
      · rw [List.mem_singleton.1 h1]
        exact hy
    exact ⟨hxy.1.fr hF (fun g hg => hq g (hxy.2 g hg)), fun g hg => (hxy.2 g hg).fr hF (hq g (hxy.2 g hg))⟩
  · rcases hat with e1 | e1
    · rw [e1] at hg'
      exact h.apart g hg' e
    · rw [e1] at hg'
      have h1 := own_lt hN.own e
      simp at hg'
      omega
  · have h1 := ((hN.lets x hx).2 g hg').1
    rcases hat with e1 | e1
    · rw [e1] at e
      exact h.far x hx g hg' e
    · rw [e1] at e
      simp at e
      omega

/-- The law's queue is a new one, of some of its letters. -/
theorem Qs.cut {w w' : World} {b : Nat} {v qv qv' : Value} {ls qs qs' : List Lt} {s c l : Int} (h : Qs w b v qv ls qs) (hN : NetR w b v ls s c l) (hF : Fr Nil w w') (hsub : ∀ y ∈ qs', y ∈ qs)
    (hown : w'.ownsRow 0 29 3 qv' qs'.length (flat qs')) (hq : ∀ k, qv'.ownBlock = some k → w.heap.size ≤ k) : Qs w' b v qv' ls qs' := by
  have h0 := h.nil hF
  refine ⟨hown, fun x hx => h0.lets x (hsub x hx), fun g hg e => ?_, fun x hx g hg e => ?_⟩
  · have h1 := own_lt hN.own e
    have := hq g hg
    omega
  · have h1 := ((hN.lets x hx).2 g hg).1
    have := hq g e
    omega

theorem Qs.row {w : World} {b n c : Nat} {v : Value} {V : Option Addr} {ls qs : List Lt} (h : Qs w b v (.slice V n c) ls qs) (hn : qs.length = n) {i : Nat} {y : Lt} (hy : qs[i]? = some y) :
    ∃ g, V = some ⟨g, 0, none⟩ ∧ n ≤ c ∧ ∀ j u, y.cells[j]? = some u → w.cell? ((Addr.add ⟨g, 0, none⟩ (i * 3)).add j) = some u := by
  have hi : i < qs.length := (List.getElem?_eq_some_iff.1 hy).1
  obtain ⟨g, c', hV, _, _⟩ := h.own.form (by omega)
  injection hV with hV1 hV2 hV3
  subst hV1 hV2 hV3
  refine ⟨g, rfl, (own_cap h.own).1, fun j u hu => ?_⟩
  rw [add_twice, add_none, Nat.zero_add]
  have hj : j < 3 := (List.getElem?_eq_some_iff.1 hu).1
  have hc := h.own.cellAt (i * 3 + j) (by omega)
  rw [hc]
  exact flatMap_get Lt.cells qs (fun _ _ => rfl) i j y u hy hu

/-- The state between two rounds. -/
structure Plays (w0 : World) (b : Nat) (qv : Value) (n : Nat) (s c l : Int) (k : Nat) (wr : World) : Prop where
  fr : Fr Nil w0 wr
  b0 : w0.heap.size ≤ b
  q0 : ∀ g, qv.ownBlock = some g → w0.heap.size ≤ g
  nk : n ≤ k
  s0 : 0 ≤ s
  s1 : s ≤ k
  c0 : 0 ≤ c
  c1 : c ≤ k
  l0 : 0 ≤ l
  l1 : l ≤ k
  rep : ∃ v ls qs, NetR wr b v ls s c l ∧ Qs wr b v qv ls qs ∧ ls.map key = qs.map key ∧ qs.length = n ∧ (∀ x ∈ qs, x.bs.length ≤ 100) ∧ ∀ g, v.ownBlock = some g → w0.heap.size ≤ g

theorem Plays.nil {w0 wr w' : World} {b n k : Nat} {qv : Value} {s c l : Int} (h : Plays w0 b qv n s c l k wr) (hF : Fr Nil wr w') : Plays w0 b qv n s c l k w' := by
  obtain ⟨v, ls, qs, hN, hQ, h1, h2, h3, h4⟩ := h.rep
  exact ⟨h.fr.trans hF (fun _ _ e => e), h.b0, h.q0, h.nk, h.s0, h.s1, h.c0, h.c1, h.l0, h.l1, v, ls, qs, hN.nil hF, hQ.nil hF, h1, h2, h3, h4⟩
theorem Plays.more {w0 wr : World} {b n k : Nat} {qv : Value} {s c l : Int} (h : Plays w0 b qv n s c l k wr) : Plays w0 b qv n s c l (k + 1) wr :=
  ⟨h.fr, h.b0, h.q0, Nat.le_succ_of_le h.nk, h.s0, by have := h.s1; omega, h.c0, by have := h.c1; omega, h.l0, by have := h.l1; omega, h.rep⟩

/-- Two queues whose letters are the same: at one place. -/
theorem key_at {ls qs : List Lt} (h : ls.map key = qs.map key) (i : Nat) {y : Lt} (hy : qs[i]? = some y) : ∃ x, ls[i]? = some x ∧ x.f = y.f ∧ x.t = y.t ∧ x.bs = y.bs := by
  have h1 : (ls.map key)[i]? = some (key y) := by rw [h, List.getElem?_map, hy]; rfl
  rw [List.getElem?_map] at h1
  cases hx : ls[i]? with
  | none => rw [hx] at h1; simp at h1
  | some x =>
    rw [hx] at h1
    simp [key] at h1
    exact ⟨x, rfl, h1.1, h1.2.1, h1.2.2⟩
theorem key_len {ls qs : List Lt} (h : ls.map key = qs.map key) : ls.length = qs.length := by simpa using congrArg List.length h
theorem key_erase {ls qs : List Lt} (h : ls.map key = qs.map key) (i : Nat) : (ls.eraseIdx i).map key = (qs.take i ++ qs.drop (i + 1)).map key := by
  rw [List.eraseIdx_eq_take_drop_succ, List.map_append, List.map_append, List.map_take, List.map_take, List.map_drop, List.map_drop, h]
theorem read_len {w : World} {A : Option Addr} {m : Nat} {bs : List Int} (h : Reads w 1 A m (bytes bs)) : m = bs.length := by have := h.1; simp [bytes] at this; omega

end Go.Proofs.Ythlflbmhdabfeaa
