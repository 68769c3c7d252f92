/- ScriptHex at what came in. -/
import Derived.Test.YtfnjeojaahnlfaaDoorWj
import Derived.Test.YtfnjeojaahnlfaaDoorOp
namespace Go.Proofs.YtfnjeojaahnlfaaDoor
open Go.RowKit
section
variable {H : Type} {enc : TypeId × Value → H} {w : World} {base : Nat} {spare : Nat → Bool} {held : Bool}
theorem open_bytes_any {v : Value} {d : DataW H} {p : List MemPlace} (h : DataW.Trod enc Tryd.prog w base spare held 22 v d p) (hv : ∃ A n c, v = .slice A n c) : ∃ bs, BytesIs w v bs := by
  obtain ⟨fuel, hf⟩ := h
  obtain ⟨A, n, c, rfl⟩ := hv
  obtain ⟨v', bs, hcs, hB⟩ := open_bytes Tryd.underlying22 Tryd.underlying5 (by kernel_rfl) hf
  have : v' = .slice A n c := by
    have h2 : (Value.slice A n c).cells.toList = [.slice A n c] := rfl
    rw [h2] at hcs
    exact (List.cons.inj hcs).1.symm
  subst this
  exact ⟨bs, hB⟩
end
theorem scriptHex_v (v : Value) (s : ByteArray) (n most : Int) (W : World) (hg : Glob W) (hv : ∃ bs, BytesIs W v bs) (hn : 0 ≤ n ∧ n ≤ 18446744073709551615) (hm : 0 ≤ most ∧ most ≤ 18446744073709551615) :
    Calls Tryd.prog 3 #[v, .string s, .int .u64 n, .int .u64 most] W fun e w' => e = .returned (.bool true) ∧ Fr Nil W w' := by
  obtain ⟨bs, A, m, c, rfl, hr, hb, hmc, hcm⟩ := hv
  obtain ⟨k, rfl⟩ : ∃ k : Nat, n = k := ⟨n.toNat, by omega⟩
  obtain ⟨j, rfl⟩ : ∃ j : Nat, most = j := ⟨most.toNat, by omega⟩
  have hlen : bs.length = m := by
    have := hr.1
    simpa [bytes] using this
  subst hlen
  have h := scriptHex_ok (K := [old W]) (l := s.data.toList) (cb := c) (n := k) (most := j) (Vw.glob .here hg) (Vw.of_old .here hr) hb (by omega) (by omega)
  rw [show sOf s.data.toList = s from Lib.mk_data s] at h
  unfold Fn at h
  refine (h W (Sep.start W)).mono ?_
  rintro e w' ⟨_, _, rfl, hs⟩
  exact ⟨rfl, hs.old_fr .here⟩
end Go.Proofs.YtfnjeojaahnlfaaDoor
