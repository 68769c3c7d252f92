/- MsgSame at what came in. -/
import Derived.Test.YtinomilmccopnaaMg8
import Derived.Test.YtinomilmccopnaaMgo
namespace Go.Proofs.Ytinomilmccopnaa
open Go.RowKit
theorem MsgV.mev {w : World} {v : Value} {m : Me} (h : MsgV w v m) : MeV [old w] m := fun w' hw => by
  have hF := hw.old_fr .here
  have hf : Fr Nil w w' := by
    have := hw.at (.here (f := old w) (L := []))
    unfold old at this
    exact this
  exact ⟨h.rd.1.fr hf (fun _ _ e => e), fun e he => ⟨(h.rd.2 e he).1.fr hf (fun _ _ e => e), (h.rd.2 e he).2.fr hf (fun _ _ e => e)⟩⟩
theorem Same_v (v u : Value) (w : World) (h : ∃ m, MsgV w v m) (h2 : ∃ m, MsgV w u m) : Calls Try.prog 7 #[v, u] w fun e w' => e = .returned (.bool true) ∧ Fr Nil w w' := by
  obtain ⟨m, hm⟩ := h
  obtain ⟨k, hk⟩ := h2
  rw [hm.v, hk.v]
  exact Fn.top (lawSame_ok hm.mev hk.mev hm.b1 hm.b2 hk.b1 hk.b2)
end Go.Proofs.Ytinomilmccopnaa
