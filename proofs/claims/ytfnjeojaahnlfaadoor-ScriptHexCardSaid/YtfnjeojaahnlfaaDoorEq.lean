/- Two arrays of bytes: are they the same? No program is in sight. -/
import Derived.Test.YtfnjeojaahnlfaaDoorSl
import Derived.Test.YtfnjeojaahnlfaaDoorNum
import Derived.Stop.BytesEq
namespace Go.Proofs.YtfnjeojaahnlfaaDoor
open Go.RowKit

def u8s (xs : List Int) : List UInt8 := xs.map fun x => UInt8.ofNat x.toNat
theorem u8s_cell {xs : List Int} (h : IsBytes xs) : bytes xs = (u8s xs).map Extern.Stop.cell := by
  unfold bytes u8s
  rw [List.map_map]
  apply List.map_congr_left
  intro x hx
  obtain ⟨h0, h1⟩ := h x hx
  have hxe : Int.ofNat (UInt8.ofNat x.toNat).toNat = x := by
    show (((UInt8.ofNat x.toNat).toNat : Nat) : Int) = x
    rw [UInt8.toNat_ofNat']
    omega
  simp only [Function.comp, Extern.Stop.cell, hxe]
theorem u8s_eq : ∀ {xs ys : List Int}, IsBytes xs → IsBytes ys → ((u8s xs == u8s ys) = decide (xs = ys))
  | [], [], _, _ => rfl
  | [], _ :: _, _, _ => by simp [u8s]
  | _ :: _, [], _, _ => by simp [u8s]
  | x :: xs, y :: ys, h, h' => by
    have ih := u8s_eq (xs := xs) (ys := ys) (fun z hz => h z (List.mem_cons_of_mem _ hz)) (fun z hz => h' z (List.mem_cons_of_mem _ hz))
    obtain ⟨a0, a1⟩ := h x (List.mem_cons_self ..)
    obtain ⟨b0, b1⟩ := h' y (List.mem_cons_self ..)
    have e : (UInt8.ofNat x.toNat == UInt8.ofNat y.toNat) = decide (x = y) := by
      rw [Bool.eq_iff_iff]
      simp only [beq_iff_eq, decide_eq_true_eq, ← UInt8.toNat_inj, UInt8.toNat_ofNat']
      omega
    show (UInt8.ofNat x.toNat :: u8s xs == UInt8.ofNat y.toNat :: u8s ys) = _
    rw [List.cons_beq_cons, ih, e, Bool.eq_iff_iff]
    simp

section
variable {P : Program} {C : World → Prop} {n : Nat} {l : Env} {ty t t' e : TypeId} {x y : Operand} {xs ys : List Int} {N : Nat}
theorem pu_eqlb (hx : ev l x = some (.agg (bytes xs).toArray)) (hy : ev l y = some (.agg (bytes ys).toArray)) (ht : P.underlying t = some (.array N e)) (he : P.underlying e = some (.int .u8)) (hz : szOf P e = some 1) (hg : P.eqGuardType P.depth t = false)
    (hxl : xs.length = N) (hyl : ys.length = N) (hxb : IsBytes xs) (hyb : IsBytes ys) : Pu P C n l (.binOp .eql t x y t') ty (.bool (decide (xs = ys))) := by
  unfold Pu
  intro a _ _ _ _ W hs _
  simp only [execOp, hs.ev hx, hs.ev hy]
  rw [u8s_cell hxb, u8s_cell hyb, Sem.run_bind, Sem.run_bind, run_eqGuard_agg (P := P) W _ t x y _ _ hg, Result.andThen_ok, run_eql_bytes (P := P) W t e N ht he (run_size hz) _ _ (by simp [u8s, hxl]) (by simp [u8s, hyl]), u8s_eq hxb hyb]
  rfl
theorem pu_eqlb_same (hx : ev l x = some (.agg (bytes xs).toArray)) (hy : ev l y = some (.agg (bytes xs).toArray)) (ht : P.underlying t = some (.array N e)) (he : P.underlying e = some (.int .u8)) (hz : szOf P e = some 1) (hg : P.eqGuardType P.depth t = false)
    (hxl : xs.length = N) (hxb : IsBytes xs) : Pu P C n l (.binOp .eql t x y t') ty (.bool true) := by
  have h := pu_eqlb (P := P) (C := C) (n := n) (ty := ty) (t' := t') hx hy ht he hz hg hxl hxl hxb hxb
  simpa using h
end

end Go.Proofs.YtfnjeojaahnlfaaDoor
