/- JournalErrors at what came in. -/
import Derived.Test.YtemhhhikopemmaaJe
namespace Go.Proofs.Ytemhhhikopemmaa
open Go.RowKit
theorem JErrs_v {a : Int} {v : Value} {w : World} (ha : 0 ≤ a ∧ a ≤ 255) (h : BxV w v) : Calls Try.prog 5 #[.int .u8 a, v] w fun e w' => e = .returned (.bool true) ∧ Fr Nil w w' := by
  obtain ⟨o, rfl⟩ : ∃ o : Nat, a = o := ⟨a.toNat, by omega⟩
  obtain ⟨b, rfl, hb⟩ := h
  have hm := hb.2.2
  unfold maxLen at hm
  exact Fn.top (lawErrs_ok (by omega) (fun hl => hb.rd (by omega)) rfl (by omega))
end Go.Proofs.Ytemhhhikopemmaa
