/- Strings of bytes. No program is in sight. -/
import Derived.Test.YtemhhhikopemmaaIds
import Derived.Test.YtemhhhikopemmaaEs
import Derived.Lib.Bytes
namespace Go.Proofs.Ytemhhhikopemmaa
open Go.RowKit
theorem nums_back {p : List Int} (h : IsBytes p) : (p.map fun n => UInt8.ofNat n.toNat).map (fun u => (u.toNat : Int)) = p := by
  rw [List.map_map]
  conv => rhs; rw [← List.map_id p]
  refine List.map_congr_left fun x hx => ?_
  obtain ⟨h1, h2⟩ := h x hx
  simp [UInt8.toNat_ofNat']
  omega
theorem strOfNums_inj {p q : List Int} (hp : IsBytes p) (hq : IsBytes q) (h : strOfNums p = strOfNums q) : p = q := by
  have h1 : (strOfNums p).data.toList = (strOfNums q).data.toList := by rw [h]
  rw [strOfNums_data, strOfNums_data] at h1
  rw [← nums_back hp, ← nums_back hq, h1]
theorem str_toList (p : List Int) : (strOfNums p).toList = p.map fun n => UInt8.ofNat n.toNat := by
  rw [Lib.strOfNums_toList]
  rfl
theorem strs_dec {p q : List Int} (hp : IsBytes p) (hq : IsBytes q) : ((strOfNums p).toList == (strOfNums q).toList) = decide (p = q) := by
  rw [Bool.eq_iff_iff, beq_iff_eq, decide_eq_true_eq, str_toList, str_toList]
  constructor
  · intro h
    rw [← nums_back hp, ← nums_back hq, h]
  · intro h
    rw [h]
theorem pu_neqlb {P : Program} {C : World → Prop} {n : Nat} {l : Env} {ty t t' e : TypeId} {x y : Operand} {xs ys : List Int} {N : Nat} (hx : ev l x = some (.agg (bytes xs).toArray)) (hy : ev l y = some (.agg (bytes ys).toArray)) (ht : P.underlying t = some (.array N e)) (he : P.underlying e = some (.int .u8)) (hz : szOf P e = some 1) (hg : P.eqGuardType P.depth t = false)
    (hxl : xs.length = N) (hyl : ys.length = N) (hxb : IsBytes xs) (hyb : IsBytes ys) : Pu P C n l (.binOp .neq t x y t') ty (.bool (!decide (xs = ys))) := by
  unfold Pu
  intro a _ _ _ _ W hs _
  simp only [execOp, hs.ev hx, hs.ev hy]
  rw [u8s_cell hxb, u8s_cell hyb, Sem.run_bind, Sem.run_bind, run_eqGuard_agg (P := P) W _ t x y _ _ hg, Result.andThen_ok, run_neq_struct, run_equalIn_bytes W 9998 t e N ht he (run_size hz) _ _ (by simp [u8s, hxl]) (by simp [u8s, hyl]), u8s_eq hxb hyb]
  rfl
end Go.Proofs.Ytemhhhikopemmaa
