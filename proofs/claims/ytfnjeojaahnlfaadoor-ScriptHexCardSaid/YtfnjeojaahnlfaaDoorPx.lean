/- More steps that only read: an array's element at any number, an array or a string indexed by value, complements. No program is in sight. -/
import Derived.Test.YtfnjeojaahnlfaaDoorSl
namespace Go.Proofs.YtfnjeojaahnlfaaDoor
open Go.RowKit
theorem toN_ {p : Int} (h : 0 ≤ p) : p = ((p.toNat : Nat) : Int) := (Int.toNat_of_nonneg h).symm
section
variable {P : Program} {C : World → Prop} {n : Nat} {l : Env} {ty t t' : TypeId} {x y z : Operand} {v u : Value} {k k' : IntKind} {p q : Int} {A : Option Addr} {m c : Nat} {ad : Addr}
theorem pu_indexAddr_y {e : TypeId} {N sz g o : Nat} (hx : ev l x = some (.pointer (some ⟨g, o, none⟩))) (hy : ev l y = some (.int k p)) (ht : P.underlying t = some (.array N e)) (he : szOf P e = some sz) (h0 : 0 ≤ p) (h1 : p < N) :
    Pu P C n l (.indexAddr t x y) ty (.pointer (some ⟨g, o + p.toNat * sz, none⟩)) := by
  obtain ⟨j, rfl⟩ : ∃ j : Nat, p = j := ⟨p.toNat, by omega⟩
  rw [Int.toNat_natCast]
  exact pu_indexAddr_a hx hy ht he (by omega)
/-- The bits that a number does not have. -/
def compl (k : IntKind) (p : Int) : Int := bits .xor k (if k.signed then -1 else k.max) p
theorem pu_com (hx : ev l x = some (.int k p)) : Pu P C n l (.unOp .xor t x) ty (.int k (compl k p)) := by
  unfold Pu
  intro a _ _ _ _ W hs _
  simp only [execOp, hs.ev hx]
  simp [go_sem, compl]
theorem pu_index_arr {e : TypeId} {N : Nat} {cs : List Value} (hx : ev l x = some (.agg cs.toArray)) (hy : ev l y = some (.int k p)) (ht : P.underlying t = some (.array N e)) (he : plainT P e = true) (h0 : 0 ≤ p) (h1 : p < N) (hn : nth cs p.toNat = some v) (hv : v.oneCell' = true) :
    Pu P C n l (.index t x y) ty v := by
  unfold Pu
  intro a _ _ _ _ W hs _
  obtain ⟨⟨d, hu, hagg⟩, i, hi, hsz⟩ := plainT_spec he
  rw [nth_eq] at hn
  simp only [execOp, hs.ev hx, hs.ev hy]
  simp [Instr.index, asIntOf, run_underlying ht, h0, h1, sizeOf, typeInfo, hi, hsz, part, hagg, hn]
theorem pu_slice_m {e : TypeId} {sz i j : Nat} (hx : ev l x = some (.slice A m c)) (hy : ev l y = some (.int k p)) (hz : ev l z = some (.int k' q)) (ht : P.underlying t = some (.slice e)) (he : szOf P e = some sz) (hp : p = (i : Int)) (hq : q = (j : Int)) (h1 : i ≤ j) (h2 : j ≤ c) :
    Pu P C n l (.slice t x none (some y) (some z)) ty (.slice A i j) := by
  subst hp hq
  unfold Pu
  intro a _ _ _ _ W hs _
  have hA : A.map (fun ad => ad.add 0) = A := by cases A <;> simp [Addr.add]
  simp only [execOp, Option.map, hs.ev hx, hs.ev hy, hs.ev hz]
  simp [Instr.sliceAt, Instr.slice, Instr.sliceBounds, Instr.sliceBound, asIntOf, run_underlying ht, run_size he, h1, h2, hA]
theorem pu_index_str {s : ByteArray} {b : UInt8} (hx : ev l x = some (.string s)) (hy : ev l y = some (.int k p)) (ht : P.underlying t = some .string) (h0 : 0 ≤ p) (hn : s[p.toNat]? = some b) :
    Pu P C n l (.index t x y) ty (.int .u8 b.toNat) := by
  unfold Pu
  intro a _ _ _ _ W hs _
  simp only [execOp, hs.ev hx, hs.ev hy]
  simp [Instr.index, asIntOf, run_underlying ht, h0, hn]
end
end Go.Proofs.YtfnjeojaahnlfaaDoor
