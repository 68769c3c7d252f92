/- Method values: functions with what is bound to them; rows of elements that are made. No program is in sight. -/
import Derived.Test.YtdmeofobljjpfaaSp4
import Derived.Test.YtdmeofobljjpfaaSp5
import Derived.Test.YtdmeofobljjpfaaReg3
import Derived.Laws.OwnMore
namespace Go.Proofs.Ytdmeofobljjpfaa
open Go.RowKit
section
variable {P : Program} {ops : Array Oper} {Q : Exit → Act → World → Prop} {n : Nat} {l : Env} {L L1 : List Fa} {rest : List Oper} {d : Tmp} {ty : TypeId} {pos : String} {after : Array Edge} {x : Operand} {f : FuncId} {fst cap vs : List Value} {zs : List Operand} {ats : Array TypeId} {α : Type} {φ : α → Prop} {vv : α → Value} {H : α → List Fa} {C : World → Prop} {g : Option (Nat × Bool)} {dst : Option Tmp}
theorem pu_mkf {fs xs : List Operand} (hf : evs l fs = some fst) (hv : evs l xs = some cap) : Pu P C n l (.makeFunc (.func f) fs.toArray xs.toArray) ty (.func (.func f) fst.toArray cap.toArray) := by
  unfold Pu
  intro a _ _ _ _ W hs _
  have h1 : xs.toArray.map a.eval = cap.toArray := by rw [List.map_toArray, hs.evs hv]
  have h2 : fs.toArray.map a.eval = fst.toArray := by rw [List.map_toArray, hs.evs hf]
  simp only [execOp, h1, h2]
  simp [Instr.makeFunc]
theorem run_callm {a : Act} (hs : Sl n l a) (hx : ev l x = some (.func (.func f) fst.toArray cap.toArray)) (hv : evs l zs = some vs) (hf : callable P f = true) (W : World) :
    (execOp a.eval ⟨dst, .call { callee := .value x, args := zs.toArray, argTypes := ats }, ty, pos, after, g⟩).run P W = .ok (.enter f (fst ++ vs ++ cap).toArray) W := by
  unfold callable at hf
  cases hfn : P.funcs[f]? with
  | none => rw [hfn] at hf; cases hf
  | some fn =>
    rw [hfn] at hf
    simp only [Bool.and_eq_true, bne_iff_ne] at hf
    obtain ⟨h1, h2⟩ := hf
    have hmap : zs.toArray.map a.eval = vs.toArray := by rw [List.map_toArray, hs.evs hv]
    simp [execOp, resolve, hs.ev hx, Deferred.ofValue, hmap, invoke, callFunc, hfn, h2, Option.isNone_iff_eq_none, Option.isSome_iff_ne_none.1 h1]
theorem sl_callm (hx : ev l x = some (.func (.func f) fst.toArray cap.toArray)) (hv : evs l zs = some vs) (hf : callable P f = true) (hd : Nat.blt d n = true) (hs : Sub L L1) (hc : Fn P f (fst ++ vs ++ cap).toArray L1 (Ret φ vv H))
    (h : ∀ a, φ a → SL P ops Q rest n ((d, vv a) :: l) (H a)) : SL P ops Q (⟨some d, .call { callee := .value x, args := zs.toArray, argTypes := ats }, ty, pos, after, none⟩ :: rest) n l L := sl_of fun w hw => WL.mk fun a hsl => by
  refine wpList_plain rfl fun K hK => ?_
  unfold Oper.wp
  rw [run_callm hsl hx hv hf w, Oper.upon_enter]
  unfold Fn at hc
  refine (hc w (hw.sub hs)).mono fun e w' ⟨q, h1, h2, h3⟩ => ?_
  subst h2
  exact hK _ _ ((h q h1).to h3 |>.get (hsl.put hd _))
end
theorem made_all (a : Value) (k : Nat) : ∀ (m : Nat), (madeCells (Array.replicate (k + 1) a) m).toList = List.replicate m a := by
  intro m
  apply List.ext_getElem
  · simp [size_madeCells]
  · intro i h1 h2
    have hk : i % (k + 1) < k + 1 := Nat.mod_lt _ (Nat.succ_pos _)
    simp only [madeCells, Array.toList_map, Array.toList_range, List.getElem_map, List.getElem_range, List.getElem_replicate, Array.size_replicate]
    rw [getElem!_pos _ _ (by simpa using hk), Array.getElem_replicate]
theorem rows_rep {C : Int → List Value} {a : Value} {sz : Nat} (h : C 0 = List.replicate sz a) : ∀ m, rows C (List.replicate m 0) = List.replicate (m * sz) a
  | 0 => by rw [Nat.zero_mul]; rfl
  | m + 1 => by rw [List.replicate_succ, rows_cons, rows_rep h m, h, List.replicate_append_replicate, Nat.succ_mul, Nat.add_comm]
theorem made_rows {C : Int → List Value} {a : Value} {k n : Nat} (h : C 0 = List.replicate (k + 1) a) : ((madeCells (Array.replicate (k + 1) a) (n * (k + 1))).toList.take (n * (k + 1))) = rows C (List.replicate n 0) := by
  rw [made_all, rows_rep h, List.take_of_length_le (by simp)]
theorem pu_allK {P : Program} {K L0 : List Fa} {n : Nat} {l : Env} {op : Op} {ty : TypeId} {v : Value} (h : Pu P (fun W => AllP W L0) n l op ty v) : Pu P (S2 K L0) n l op ty v := by
  unfold Pu at h ⊢
  exact fun a b c d e W hs hW => h a b c d e W hs hW.2
theorem pu_sepK {P : Program} {K L0 : List Fa} {n : Nat} {l : Env} {op : Op} {ty : TypeId} {v : Value} (h : Pu P (In K) n l op ty v) : Pu P (S2 K L0) n l op ty v := by
  unfold Pu at h ⊢
  exact fun a b c d e W hs hW => h a b c d e W hs hW.1
end Go.Proofs.Ytdmeofobljjpfaa
