/- Short words for what is found by looking: a premise that is filled in by the steps written here once. No program is in sight. -/
import Derived.Test.YtfnjeojaahnlfaaDoorSp6
namespace Go.Proofs.YtfnjeojaahnlfaaDoor
open Go.RowKit
theorem at_ {φ : Prop} (h : φ := by (repeat (first | exact At.here | assumption | refine At.there ?_)); first | done | fail) : φ := h
theorem pick_ {φ : Prop} (h : φ := by (repeat (first | exact Pick.here | apply Pick.there)); first | done | fail) : φ := h
theorem sub_ {φ : Prop} (h : φ := by (repeat (first | exact Sub.refl | exact Sub.nil | (apply Sub.cons; (repeat (first | exact Pick.here | apply Pick.there)); show Sub _ _) | apply Sub.skip)); first | done | fail) : φ := h
theorem has_ {φ : Prop} (h : φ := by (repeat (first | exact has_nil | refine has_cons rfl ?_)); first | done | fail) : φ := h
theorem nop_ {φ : Prop} (h : φ := by repeat (first | exact nop_body | refine nop_then ?_ | refine nop_block ?_)) : φ := h
inductive AtAll (L : List Fa) : List Fa → Prop
  | nil : AtAll L []
  | cons {f : Fa} {r : List Fa} (h : At f L) (hr : AtAll L r) : AtAll L (f :: r)
theorem AtAll.all {w : World} {L r : List Fa} (hw : Sep w L) (h : AtAll L r) : AllP w r := by
  induction h with
  | nil => exact AllP.nil
  | cons h _ ih => exact AllP.cons (hw.at h) ih
theorem all_ {w : World} {L r : List Fa} (hw : Sep w L) (h : AtAll L r := by (repeat (first | exact AtAll.nil | refine AtAll.cons (by exact at_) ?_)); first | done | fail) : AllP w r := h.all hw
theorem gd_ {φ : Prop} (h : φ := by first | exact GdOk.none | exact GdOk.some rfl rfl rfl) : φ := h
structure Hide (p : Prop) : Prop where
  out : p
theorem so_ {φ ψ : Prop} (k : ψ) (h : Hide ψ → φ := by (intro k; (first | refine sc_seq ?_ | refine sc_region ?_ | refine sl_nil ?_ | refine se_seq ?_ | refine sc_cond rfl (by constructor) ?_ | refine sc_skip ?_ | refine sc_block ?_ | refine se_blk (by first | exact .n | exact .h | exact .m rfl | exact .r | exact .p) ?_ | refine sc_exit ?_ | refine se_pass (by constructor) ?_ | refine sc_ret ?_); exact k.out)) : φ := h ⟨k⟩
section
variable {P : Program} {ops : Array Oper} {Q : Exit → Act → World → Prop} {n : Nat} {l : Env} {L L1 : List Fa} {rest : List Oper} {d : Tmp} {ty : TypeId} {pos : String} {after : Array Edge} {x : Operand} {f : FuncId} {cap : List Value} {zs : List Operand} {vs : List Value} {ats : Array TypeId} {α : Type} {φ : α → Prop} {vv : α → Value} {H : α → List Fa} {args : Array Value} {dst : Option Tmp}
/-- A call. -/
theorem fcall (hc : Fn P f args L1 (Ret φ vv H)) (h : ∀ a, φ a → SL P ops Q rest n ((d, vv a) :: l) (H a)) (hx : ev l x = some (.func (.func f) #[] cap.toArray) := by rfl) (hv : evs l zs = some vs := by rfl) (ha : (vs ++ cap).toArray = args := by rfl) (hf : callable P f = true := by kernel_rfl) (hd : Nat.blt d n = true := by rfl)
    (hs : Sub L L1 := by (repeat (first | exact Sub.refl | exact Sub.nil | (apply Sub.cons; (repeat (first | exact Pick.here | apply Pick.there)); show Sub _ _) | apply Sub.skip)); first | done | fail) : SL P ops Q (⟨some d, .call { callee := .value x, args := zs.toArray, argTypes := ats }, ty, pos, after, none⟩ :: rest) n l L := by
  subst ha
  exact sl_call hx hv hf hd hs hc h
theorem fcall0 (hc : Fn P f args L1 (Ret φ vv H)) (h : ∀ a, φ a → SL P ops Q rest n l (H a)) (hx : ev l x = some (.func (.func f) #[] cap.toArray) := by rfl) (hv : evs l zs = some vs := by rfl) (ha : (vs ++ cap).toArray = args := by rfl) (hf : callable P f = true := by kernel_rfl)
    (hs : Sub L L1 := by (repeat (first | exact Sub.refl | exact Sub.nil | (apply Sub.cons; (repeat (first | exact Pick.here | apply Pick.there)); show Sub _ _) | apply Sub.skip)); first | done | fail) : SL P ops Q (⟨none, .call { callee := .value x, args := zs.toArray, argTypes := ats }, ty, pos, after, none⟩ :: rest) n l L := by
  subst ha
  exact sl_call0 hx hv hf hs hc h
theorem fdie {cc : α → List PanicEntry} (hc : Fn P f args L1 (Pan φ cc H)) (h : ∀ a, φ a → SE Q (.panic (cc a)) n l (H a)) (hx : ev l x = some (.func (.func f) #[] cap.toArray) := by rfl) (hv : evs l zs = some vs := by rfl) (ha : (vs ++ cap).toArray = args := by rfl) (hf : callable P f = true := by kernel_rfl)
    (hs : Sub L L1 := by (repeat (first | exact Sub.refl | exact Sub.nil | (apply Sub.cons; (repeat (first | exact Pick.here | apply Pick.there)); show Sub _ _) | apply Sub.skip)); first | done | fail) : SL P ops Q (⟨dst, .call { callee := .value x, args := zs.toArray, argTypes := ats }, ty, pos, after, none⟩ :: rest) n l L := by
  subst ha
  exact sl_die hx hv hf hs hc h
theorem fquiet {q : Act → Prop} {φ : Unit → Prop} {vv : Unit → Value} (hc : Fn P f args L (Ret φ vv (fun _ => L))) (h : WQ P ops (In L) q rest n ((d, vv ()) :: l)) (hx : ev l x = some (.func (.func f) #[] cap.toArray) := by rfl) (hv : evs l zs = some vs := by rfl) (ha : (vs ++ cap).toArray = args := by rfl) (hf : callable P f = true := by kernel_rfl) (hd : Nat.blt d n = true := by rfl) : WQ P ops (In L) q (⟨some d, .call { callee := .value x, args := zs.toArray, argTypes := ats }, ty, pos, after, none⟩ :: rest) n l := by
  subst ha
  exact WQ_call hx hv hf hd hc h
end
end Go.Proofs.YtfnjeojaahnlfaaDoor
