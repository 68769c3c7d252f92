/-
  No cell of these rows narrows 'for every input' (looked for: loops, veiled, ifaces, maps, wideKeys, modest, calm, conditions, laid).
  DERIVED. THE GIVEN ROWS OF THIS SEAT. 3 by the template 'for every input the law returns true; each argument reads behind the call as it read before'; 0 by the template 'total and deterministic' (their statements: YtocaabnbmcpjmaaGreatTotals.lean).
  GIVEN WITH THE SEED: the statements are not yours to turn. If you find one false, say at which input.
  Laid BY PROGRAM, IN A SANDBOX (cutbox-rows.mjs): the forced cells as the released guide's own fill.sh prints them over the translation 9f33793ae60bc516… (all of the seat's roots in one cut). By AI agents, Wed Nov 11 2026. No macro, syntax, notation, axiom, sorry.
-/
import Derived.Test.YtocaabnbmcpjmaaGreatChecked
import GoSem.Claim
import GoSem.ClaimJoined
import GoSem.ClaimMapViews
import Derived.JoinedTies
import Derived.KernelRfl
namespace Go.Proofs.YtocaabnbmcpjmaaGreat
/- THE CELL 'sum', in the pinned program and in every row, IS THE sha256 OF THE DUMP (.gsa) THAT YtocaabnbmcpjmaaGreatProg.lean LOADS. Nothing in Lean hashes anything: it is a label: what it is worth is what the hold of that sum in a sandbox is worth. -/
noncomputable def Tryz.pinned : Pinned := { name := "ytocaabnbmcpjmaagreat", sum := "9f33793ae60bc5166284a2a6b6e1bcc18db443b93c84024ba4f4a91adf84f2ac", checked := Tryz.checked }
namespace Rows
def none {H : Type} : Left H := { results := [], args := [] }

/-- 'tallymanlaw21.StoreHalts': WHATEVER THE INPUT: true; the input reads as it did. -/
def storeHaltsSpec : ChangeSpec := { name := "storeHalts", fn := fun _ => fun
  | [d1, d2, d3] => { results := [.lit (.bool true)], args := [d1, d2, d3] }
  | _ => none }
def storeHaltsRow : OpenClaim := { program := "ytocaabnbmcpjmaagreat", sum := "9f33793ae60bc5166284a2a6b6e1bcc18db443b93c84024ba4f4a91adf84f2ac", func := "tallyman/tallymanlaw21.StoreHalts", spec := "storeHalts", inPlace := ["internal/bytealg.Compare", "slices.overlaps[tallyman/replay.Seen]", "math/bits.Add64", "math/bits.Sub64"], unfollowed := true, recurses := true, plainKeys := false, apart := false }
def StoreHaltsSaid : Prop := storeHaltsRow.holds Tryz.pinned (OpenSpec.ofChange storeHaltsSpec)

/-- ITS FALSE NEIGHBOUR: 'it returns false'. Refute it at one input. -/
def storeHaltsWrong : ChangeSpec := { name := "storeHalts", fn := fun _ => fun
  | [d1, d2, d3] => { results := [.lit (.bool false)], args := [d1, d2, d3] }
  | _ => none }
def StoreHaltsWrongFalsely : Prop := storeHaltsRow.holds Tryz.pinned (OpenSpec.ofChange storeHaltsWrong)

/-- 'tallymanlaw21.StoreNone': WHATEVER THE INPUT: true; the input reads as it did. -/
def storeNoneSpec : ChangeSpec := { name := "storeNone", fn := fun _ => fun
  | [d1, d2, d3, d4, d5] => { results := [.lit (.bool true)], args := [d1, d2, d3, d4, d5] }
  | _ => none }
def storeNoneRow : OpenClaim := { program := "ytocaabnbmcpjmaagreat", sum := "9f33793ae60bc5166284a2a6b6e1bcc18db443b93c84024ba4f4a91adf84f2ac", func := "tallyman/tallymanlaw21.StoreNone", spec := "storeNone", inPlace := ["internal/bytealg.Compare", "slices.overlaps[tallyman/replay.Seen]", "math/bits.Add64", "math/bits.Sub64"], unfollowed := true, recurses := true, plainKeys := false, apart := false }
def StoreNoneSaid : Prop := storeNoneRow.holds Tryz.pinned (OpenSpec.ofChange storeNoneSpec)

/-- ITS FALSE NEIGHBOUR: 'it returns false'. Refute it at one input. -/
def storeNoneWrong : ChangeSpec := { name := "storeNone", fn := fun _ => fun
  | [d1, d2, d3, d4, d5] => { results := [.lit (.bool false)], args := [d1, d2, d3, d4, d5] }
  | _ => none }
def StoreNoneWrongFalsely : Prop := storeNoneRow.holds Tryz.pinned (OpenSpec.ofChange storeNoneWrong)

/-- 'tallymanlaw21.StorePlays': WHATEVER THE INPUT: true; the input reads as it did. -/
def storePlaysSpec : ChangeSpec := { name := "storePlays", fn := fun _ => fun
  | [d1, d2, d3, d4] => { results := [.lit (.bool true)], args := [d1, d2, d3, d4] }
  | _ => none }
def storePlaysRow : OpenClaim := { program := "ytocaabnbmcpjmaagreat", sum := "9f33793ae60bc5166284a2a6b6e1bcc18db443b93c84024ba4f4a91adf84f2ac", func := "tallyman/tallymanlaw21.StorePlays", spec := "storePlays", inPlace := ["internal/bytealg.Compare", "slices.overlaps[tallyman/replay.Seen]", "math/bits.Add64", "math/bits.Sub64"], unfollowed := true, recurses := true, plainKeys := false, apart := false }
def StorePlaysSaid : Prop := storePlaysRow.holds Tryz.pinned (OpenSpec.ofChange storePlaysSpec)

/-- ITS FALSE NEIGHBOUR: 'it returns false'. Refute it at one input. -/
def storePlaysWrong : ChangeSpec := { name := "storePlays", fn := fun _ => fun
  | [d1, d2, d3, d4] => { results := [.lit (.bool false)], args := [d1, d2, d3, d4] }
  | _ => none }
def StorePlaysWrongFalsely : Prop := storePlaysRow.holds Tryz.pinned (OpenSpec.ofChange storePlaysWrong)

/- THE SECOND FORM. 'bulk': how many values and letters a reading holds, each counted each time it is reached (what is shared counts as often as it is met; a slice's spare places count too). A statement '..UptoSaid' is the law's where the arguments, and the package variables that the reading takes, are together of bulk at most 1048576: NARROWER than '..Said'. Prove '..Said' where nothing that the law and all that it calls make is longer than what came in: it says more and counts as full. Else prove '..UptoSaid'. A law counts once. -/
mutual
def uptoBulk {H : Type} : DataW H → Nat
  | .lit (.string bytes) => bytes.length + 1
  | .lit _ => 1
  | .nil => 1
  | .ptr d => uptoBulk d + 1
  | .slice elems spare => uptoBulkAll elems + uptoBulkAll spare + 1
  | .agg parts => uptoBulkAll parts + 1
  | .iface _ d => uptoBulk d + 1
  | .map entries => uptoBulkEntries entries + 1
  | .held _ => 1
def uptoBulkAll {H : Type} : List (DataW H) → Nat
  | [] => 0
  | d :: r => uptoBulk d + uptoBulkAll r
def uptoBulkEntries {H : Type} : List (Lit × DataW H) → Nat
  | [] => 0
  | x :: r => uptoBulkEntry x + uptoBulkEntries r
def uptoBulkEntry {H : Type} : Lit × DataW H → Nat
  | (.string bytes, d) => bytes.length + uptoBulk d + 1
  | (_, d) => uptoBulk d + 1
 end
def uptoSmall : (H : Type) → List (DataW H) → Bool := fun _ ds => decide (uptoBulkAll ds ≤ 1048576)
def OpenSpec.upto (s : _root_.Go.ChangeSpec) : _root_.Go.OpenSpec := { _root_.Go.OpenSpec.ofChange s with cond := some uptoSmall }

/-- 'tallymanlaw21.StoreHalts', WHERE WHAT IT READS IS OF BULK AT MOST 1048576: true; the input reads as it did. -/
def storeHaltsUptoRow : OpenClaim := { program := "ytocaabnbmcpjmaagreat", sum := "9f33793ae60bc5166284a2a6b6e1bcc18db443b93c84024ba4f4a91adf84f2ac", func := "tallyman/tallymanlaw21.StoreHalts", spec := "storeHalts", inPlace := ["internal/bytealg.Compare", "slices.overlaps[tallyman/replay.Seen]", "math/bits.Add64", "math/bits.Sub64"], unfollowed := true, recurses := true, plainKeys := false, apart := false, narrowed := true }
def StoreHaltsUptoSaid : Prop := storeHaltsUptoRow.holds Tryz.pinned (OpenSpec.upto storeHaltsSpec)

/-- 'tallymanlaw21.StoreNone', WHERE WHAT IT READS IS OF BULK AT MOST 1048576: true; the input reads as it did. -/
def storeNoneUptoRow : OpenClaim := { program := "ytocaabnbmcpjmaagreat", sum := "9f33793ae60bc5166284a2a6b6e1bcc18db443b93c84024ba4f4a91adf84f2ac", func := "tallyman/tallymanlaw21.StoreNone", spec := "storeNone", inPlace := ["internal/bytealg.Compare", "slices.overlaps[tallyman/replay.Seen]", "math/bits.Add64", "math/bits.Sub64"], unfollowed := true, recurses := true, plainKeys := false, apart := false, narrowed := true }
def StoreNoneUptoSaid : Prop := storeNoneUptoRow.holds Tryz.pinned (OpenSpec.upto storeNoneSpec)

/-- 'tallymanlaw21.StorePlays', WHERE WHAT IT READS IS OF BULK AT MOST 1048576: true; the input reads as it did. -/
def storePlaysUptoRow : OpenClaim := { program := "ytocaabnbmcpjmaagreat", sum := "9f33793ae60bc5166284a2a6b6e1bcc18db443b93c84024ba4f4a91adf84f2ac", func := "tallyman/tallymanlaw21.StorePlays", spec := "storePlays", inPlace := ["internal/bytealg.Compare", "slices.overlaps[tallyman/replay.Seen]", "math/bits.Add64", "math/bits.Sub64"], unfollowed := true, recurses := true, plainKeys := false, apart := false, narrowed := true }
def StorePlaysUptoSaid : Prop := storePlaysUptoRow.holds Tryz.pinned (OpenSpec.upto storePlaysSpec)

end Rows
end Go.Proofs.YtocaabnbmcpjmaaGreat
