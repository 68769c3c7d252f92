/- A literal's bytes, as the run-time marks them: read only. No program is in sight. -/
import Derived.Test.YtemhhhikopemmaaSp4
namespace Go.Proofs.Ytemhhhikopemmaa
open Go.RowKit
def LitP (e : TypeId) (g : Nat) (cs : List Value) (w : World) : Prop := w.heap[g]? = some (.cells cs.toArray e (cs.length, cs.length + 1))
def lit (e : TypeId) (g : Nat) (cs : List Value) : Fa := ⟨LitP e g cs, fun k => k = g, fun h e => by rw [e]; exact (Array.getElem?_eq_some_iff.1 h).1, fun h hF hn => (hF.block g (Array.getElem?_eq_some_iff.1 h).1 (hn g rfl)).trans h⟩
theorem lit_P {e : TypeId} {g : Nat} {cs : List Value} {w : World} : (lit e g cs).P w = LitP e g cs w := rfl
theorem lit_F {e : TypeId} {g k : Nat} {cs : List Value} : (lit e g cs).F k = (k = g) := rfl
attribute [irreducible] lit
section
variable {P : Program} {ops : Array Oper} {Q : Exit → Act → World → Prop} {n : Nat} {l : Env} {L L' : List Fa} {rest : List Oper} {d : Tmp} {ty t e : TypeId} {pos : String} {after : Array Edge} {x : Operand} {g k : Nat} {cs : List Value}
theorem lit_vw (h : At (lit e g cs) L) : Vw L (fun w => Reads w 1 (some ⟨g, 0, none⟩) cs.length cs) := fun w hw => by
  have h1 : LitP e g cs w := lit_P ▸ hw.at h
  unfold LitP at h1
  refine ⟨(Nat.mul_one _).symm, fun _ => ⟨_, rfl, fun j v hv => ?_⟩⟩
  rw [add_none, Nat.zero_add]
  simp only [World.cell?, h1]
  simpa using hv
theorem sl_mark (hx : ev l x = some (.slice (some ⟨g, 0, none⟩) k k)) (hp : Pick (own e 1 (some ⟨g, 0, none⟩) k k cs) L L') (ht : P.underlying t = some (.slice e)) (he : P.underlying e = some (.int .u8)) (hd : Nat.blt d n = true)
    (h : SL P ops Q rest n ((d, .slice (some ⟨g, 0, none⟩) k k) :: l) (lit e g cs :: L')) : SL P ops Q (⟨some d, .convert t t x, ty, pos, after, none⟩ :: rest) n l L := sl_of fun w hw => by
  have h2 := hw.pick hp
  have hO : w.ownsRow 0 e 1 (.slice (some ⟨g, 0, none⟩) k k) k cs := by
    have := h2.hd
    unfold own at this
    exact this
  obtain ⟨cur, hB, _, _, hcs, htk, hxl⟩ := own_open hO
  rw [Nat.mul_one] at hcs htk hxl
  have hcur : cur = cs.toArray := by
    apply Array.ext'
    rw [List.toList_toArray, ← htk, List.take_of_length_le (by simp [hcs])]
  subst hcur
  unfold Blk at hB
  have hg : g < w.heap.size := (Array.getElem?_eq_some_iff.1 hB).1
  have hsh : w.shape? g = some (e, cs.length) := by
    unfold World.shape?
    rw [hB]
    simp
  refine wl_run (v := .slice (some ⟨g, 0, none⟩) k k) (w' := w.freeze ⟨g, cs.length, none⟩ 1) ?_ hd (h.to ?_)
  · unfold Ru
    intro a _ _ _ _ hs
    simp only [execOp, hs.ev hx]
    simp [convert, run_underlying ht, run_underlying he, markStringish, hsh]
  · refine h2.step (S := fun j => j = g) ⟨rfl, rfl, rfl, ?_, fun j hj hn => ?_⟩ (fun j _ e => by rw [own_F]; exact congrArg some e.symm) ?_ (fun j hj => .inl (by rw [lit_F] at hj; rw [own_F]; exact congrArg some hj.symm))
    · simp [World.freeze]
    · have : g ≠ j := fun e => hn e.symm
      simp [World.freeze, Array.getElem?_modify, this]
    · rw [lit_P]
      unfold LitP World.freeze
      simp [Array.getElem?_modify, hB]
end
end Go.Proofs.Ytemhhhikopemmaa
