/-
  No cell of these rows narrows 'for every input' (looked for: loops, veiled, ifaces, maps, wideKeys, modest, calm, conditions, laid).
  DERIVED. THE GIVEN ROWS OF THIS SEAT. 9 by the template 'for every input the law returns true; each argument reads behind the call as it read before'; 0 by the template 'total and deterministic' (their statements: YtinomilmccopnaaTotals.lean).
  GIVEN WITH THE SEED: the statements are not yours to turn. If you find one false, say at which input.
  Laid BY PROGRAM, IN A SANDBOX (cutbox-rows.mjs): the forced cells as the released guide's own fill.sh prints them over the translation 3e1a2af18db8ab9a… (all of the seat's roots in one cut). By AI agents, Wed Nov 11 2026. No macro, syntax, notation, axiom, sorry.
-/
import Derived.Test.YtinomilmccopnaaChecked
import GoSem.Claim
import GoSem.ClaimJoined
import GoSem.ClaimMapViews
import Derived.JoinedTies
import Derived.KernelRfl
namespace Go.Proofs.Ytinomilmccopnaa
/- THE CELL 'sum', in the pinned program and in every row, IS THE sha256 OF THE DUMP (.gsa) THAT YtinomilmccopnaaProg.lean LOADS. Nothing in Lean hashes anything: it is a label: what it is worth is what the hold of that sum in a sandbox is worth. -/
noncomputable def Try.pinned : Pinned := { name := "ytinomilmccopnaa", sum := "3e1a2af18db8ab9a0a8768ace2bc19d371e3149a702aa1df84653214de1f1577", checked := Try.checked }
namespace Rows
def none {H : Type} : Left H := { results := [], args := [] }

/-- 'tallymanlaw29.ViewParts': WHATEVER THE INPUT: true; the input reads as it did. -/
def viewPartsSpec : ChangeSpec := { name := "viewParts", fn := fun _ => fun
  | [d1, d2, d3] => { results := [.lit (.bool true)], args := [d1, d2, d3] }
  | _ => none }
def viewPartsRow : OpenClaim := { program := "ytinomilmccopnaa", sum := "3e1a2af18db8ab9a0a8768ace2bc19d371e3149a702aa1df84653214de1f1577", func := "tallyman/tallymanlaw29.ViewParts", spec := "viewParts", inPlace := ["internal/abi.NoEscape"], recurses := true, apart := false }
def ViewPartsSaid : Prop := viewPartsRow.holds Try.pinned (OpenSpec.ofChange viewPartsSpec)

/-- ITS FALSE NEIGHBOUR: 'it returns false'. Refute it at one input. -/
def viewPartsWrong : ChangeSpec := { name := "viewParts", fn := fun _ => fun
  | [d1, d2, d3] => { results := [.lit (.bool false)], args := [d1, d2, d3] }
  | _ => none }
def ViewPartsWrongFalsely : Prop := viewPartsRow.holds Try.pinned (OpenSpec.ofChange viewPartsWrong)

/-- 'tallymanlaw20.MsgMany': WHATEVER THE INPUT: true; the input reads as it did. -/
def msgManySpec : ChangeSpec := { name := "msgMany", fn := fun _ => fun
  | [d1, d2] => { results := [.lit (.bool true)], args := [d1, d2] }
  | _ => none }
def msgManyRow : OpenClaim := { program := "ytinomilmccopnaa", sum := "3e1a2af18db8ab9a0a8768ace2bc19d371e3149a702aa1df84653214de1f1577", func := "tallyman/tallymanlaw20.MsgMany", spec := "msgMany", apart := false }
def MsgManySaid : Prop := msgManyRow.holds Try.pinned (OpenSpec.ofChange msgManySpec)

/-- ITS FALSE NEIGHBOUR: 'it returns false'. Refute it at one input. -/
def msgManyWrong : ChangeSpec := { name := "msgMany", fn := fun _ => fun
  | [d1, d2] => { results := [.lit (.bool false)], args := [d1, d2] }
  | _ => none }
def MsgManyWrongFalsely : Prop := msgManyRow.holds Try.pinned (OpenSpec.ofChange msgManyWrong)

/-- 'tallymanlaw12.PackCounts': WHATEVER THE INPUT: true; the input reads as it did. -/
def packCountsSpec : ChangeSpec := { name := "packCounts", fn := fun _ => fun
  | [d1, d2, d3] => { results := [.lit (.bool true)], args := [d1, d2, d3] }
  | _ => none }
def packCountsRow : OpenClaim := { program := "ytinomilmccopnaa", sum := "3e1a2af18db8ab9a0a8768ace2bc19d371e3149a702aa1df84653214de1f1577", func := "tallyman/tallymanlaw12.PackCounts", spec := "packCounts", unfollowed := true, recurses := true, apart := false }
def PackCountsSaid : Prop := packCountsRow.holds Try.pinned (OpenSpec.ofChange packCountsSpec)

/-- ITS FALSE NEIGHBOUR: 'it returns false'. Refute it at one input. -/
def packCountsWrong : ChangeSpec := { name := "packCounts", fn := fun _ => fun
  | [d1, d2, d3] => { results := [.lit (.bool false)], args := [d1, d2, d3] }
  | _ => none }
def PackCountsWrongFalsely : Prop := packCountsRow.holds Try.pinned (OpenSpec.ofChange packCountsWrong)

/-- 'tallymanlaw12.PackEnds': WHATEVER THE INPUT: true; the input reads as it did. -/
def packEndsSpec : ChangeSpec := { name := "packEnds", fn := fun _ => fun
  | [d1, d2, d3, d4, d5] => { results := [.lit (.bool true)], args := [d1, d2, d3, d4, d5] }
  | _ => none }
def packEndsRow : OpenClaim := { program := "ytinomilmccopnaa", sum := "3e1a2af18db8ab9a0a8768ace2bc19d371e3149a702aa1df84653214de1f1577", func := "tallyman/tallymanlaw12.PackEnds", spec := "packEnds", unfollowed := true, recurses := true, apart := false }
def PackEndsSaid : Prop := packEndsRow.holds Try.pinned (OpenSpec.ofChange packEndsSpec)

/-- ITS FALSE NEIGHBOUR: 'it returns false'. Refute it at one input. -/
def packEndsWrong : ChangeSpec := { name := "packEnds", fn := fun _ => fun
  | [d1, d2, d3, d4, d5] => { results := [.lit (.bool false)], args := [d1, d2, d3, d4, d5] }
  | _ => none }
def PackEndsWrongFalsely : Prop := packEndsRow.holds Try.pinned (OpenSpec.ofChange packEndsWrong)

/-- 'tallymanlaw20.MsgSame': WHATEVER THE INPUT: true; the input reads as it did. -/
def msgSameSpec : ChangeSpec := { name := "msgSame", fn := fun _ => fun
  | [d1, d2] => { results := [.lit (.bool true)], args := [d1, d2] }
  | _ => none }
def msgSameRow : OpenClaim := { program := "ytinomilmccopnaa", sum := "3e1a2af18db8ab9a0a8768ace2bc19d371e3149a702aa1df84653214de1f1577", func := "tallyman/tallymanlaw20.MsgSame", spec := "msgSame", apart := false }
def MsgSameSaid : Prop := msgSameRow.holds Try.pinned (OpenSpec.ofChange msgSameSpec)

/-- ITS FALSE NEIGHBOUR: 'it returns false'. Refute it at one input. -/
def msgSameWrong : ChangeSpec := { name := "msgSame", fn := fun _ => fun
  | [d1, d2] => { results := [.lit (.bool false)], args := [d1, d2] }
  | _ => none }
def MsgSameWrongFalsely : Prop := msgSameRow.holds Try.pinned (OpenSpec.ofChange msgSameWrong)

/-- 'tallymanlaw12.PackThings': WHATEVER THE INPUT: true; the input reads as it did. -/
def packThingsSpec : ChangeSpec := { name := "packThings", fn := fun _ => fun
  | [d1, d2] => { results := [.lit (.bool true)], args := [d1, d2] }
  | _ => none }
def packThingsRow : OpenClaim := { program := "ytinomilmccopnaa", sum := "3e1a2af18db8ab9a0a8768ace2bc19d371e3149a702aa1df84653214de1f1577", func := "tallyman/tallymanlaw12.PackThings", spec := "packThings", unfollowed := true, recurses := true, apart := false }
def PackThingsSaid : Prop := packThingsRow.holds Try.pinned (OpenSpec.ofChange packThingsSpec)

/-- ITS FALSE NEIGHBOUR: 'it returns false'. Refute it at one input. -/
def packThingsWrong : ChangeSpec := { name := "packThings", fn := fun _ => fun
  | [d1, d2] => { results := [.lit (.bool false)], args := [d1, d2] }
  | _ => none }
def PackThingsWrongFalsely : Prop := packThingsRow.holds Try.pinned (OpenSpec.ofChange packThingsWrong)

/-- 'tallymanlaw12.PackOutside': WHATEVER THE INPUT: true; the input reads as it did. -/
def packOutsideSpec : ChangeSpec := { name := "packOutside", fn := fun _ => fun
  | [d1, d2, d3] => { results := [.lit (.bool true)], args := [d1, d2, d3] }
  | _ => none }
def packOutsideRow : OpenClaim := { program := "ytinomilmccopnaa", sum := "3e1a2af18db8ab9a0a8768ace2bc19d371e3149a702aa1df84653214de1f1577", func := "tallyman/tallymanlaw12.PackOutside", spec := "packOutside", unfollowed := true, recurses := true, apart := false }
def PackOutsideSaid : Prop := packOutsideRow.holds Try.pinned (OpenSpec.ofChange packOutsideSpec)

/-- ITS FALSE NEIGHBOUR: 'it returns false'. Refute it at one input. -/
def packOutsideWrong : ChangeSpec := { name := "packOutside", fn := fun _ => fun
  | [d1, d2, d3] => { results := [.lit (.bool false)], args := [d1, d2, d3] }
  | _ => none }
def PackOutsideWrongFalsely : Prop := packOutsideRow.holds Try.pinned (OpenSpec.ofChange packOutsideWrong)

/-- 'tallymanlaw20.MsgBytes': WHATEVER THE INPUT: true; the input reads as it did. -/
def msgBytesSpec : ChangeSpec := { name := "msgBytes", fn := fun _ => fun
  | [d] => { results := [.lit (.bool true)], args := [d] }
  | _ => none }
def msgBytesRow : OpenClaim := { program := "ytinomilmccopnaa", sum := "3e1a2af18db8ab9a0a8768ace2bc19d371e3149a702aa1df84653214de1f1577", func := "tallyman/tallymanlaw20.MsgBytes", spec := "msgBytes", unfollowed := true, recurses := true, apart := false }
def MsgBytesSaid : Prop := msgBytesRow.holds Try.pinned (OpenSpec.ofChange msgBytesSpec)

/-- ITS FALSE NEIGHBOUR: 'it returns false'. Refute it at one input. -/
def msgBytesWrong : ChangeSpec := { name := "msgBytes", fn := fun _ => fun
  | [d] => { results := [.lit (.bool false)], args := [d] }
  | _ => none }
def MsgBytesWrongFalsely : Prop := msgBytesRow.holds Try.pinned (OpenSpec.ofChange msgBytesWrong)

/-- 'tallymanlaw20.MsgAny': WHATEVER THE INPUT: true; the input reads as it did. -/
def msgAnySpec : ChangeSpec := { name := "msgAny", fn := fun _ => fun
  | [d1, d2, d3, d4] => { results := [.lit (.bool true)], args := [d1, d2, d3, d4] }
  | _ => none }
def msgAnyRow : OpenClaim := { program := "ytinomilmccopnaa", sum := "3e1a2af18db8ab9a0a8768ace2bc19d371e3149a702aa1df84653214de1f1577", func := "tallyman/tallymanlaw20.MsgAny", spec := "msgAny", unfollowed := true, recurses := true, apart := false }
def MsgAnySaid : Prop := msgAnyRow.holds Try.pinned (OpenSpec.ofChange msgAnySpec)

/-- ITS FALSE NEIGHBOUR: 'it returns false'. Refute it at one input. -/
def msgAnyWrong : ChangeSpec := { name := "msgAny", fn := fun _ => fun
  | [d1, d2, d3, d4] => { results := [.lit (.bool false)], args := [d1, d2, d3, d4] }
  | _ => none }
def MsgAnyWrongFalsely : Prop := msgAnyRow.holds Try.pinned (OpenSpec.ofChange msgAnyWrong)

/- THE SECOND FORM. 'bulk': how many values and letters a reading holds, each counted each time it is reached (what is shared counts as often as it is met; a slice's spare places count too). A statement '..UptoSaid' is the law's where the arguments, and the package variables that the reading takes, are together of bulk at most 1048576: NARROWER than '..Said'. Prove '..Said' where nothing that the law and all that it calls make is longer than what came in: it says more and counts as full. Else prove '..UptoSaid'. A law counts once. -/
mutual
def uptoBulk {H : Type} : DataW H → Nat
  | .lit (.string bytes) => bytes.length + 1
  | .lit _ => 1
  | .nil => 1
  | .ptr d => uptoBulk d + 1
  | .slice elems spare => uptoBulkAll elems + uptoBulkAll spare + 1
  | .agg parts => uptoBulkAll parts + 1
  | .iface _ d => uptoBulk d + 1
  | .map entries => uptoBulkEntries entries + 1
  | .held _ => 1
def uptoBulkAll {H : Type} : List (DataW H) → Nat
  | [] => 0
  | d :: r => uptoBulk d + uptoBulkAll r
def uptoBulkEntries {H : Type} : List (Lit × DataW H) → Nat
  | [] => 0
  | x :: r => uptoBulkEntry x + uptoBulkEntries r
def uptoBulkEntry {H : Type} : Lit × DataW H → Nat
  | (.string bytes, d) => bytes.length + uptoBulk d + 1
  | (_, d) => uptoBulk d + 1
 end
def uptoSmall : (H : Type) → List (DataW H) → Bool := fun _ ds => decide (uptoBulkAll ds ≤ 1048576)
def OpenSpec.upto (s : _root_.Go.ChangeSpec) : _root_.Go.OpenSpec := { _root_.Go.OpenSpec.ofChange s with cond := some uptoSmall }

/-- 'tallymanlaw29.ViewParts', WHERE WHAT IT READS IS OF BULK AT MOST 1048576: true; the input reads as it did. -/
def viewPartsUptoRow : OpenClaim := { program := "ytinomilmccopnaa", sum := "3e1a2af18db8ab9a0a8768ace2bc19d371e3149a702aa1df84653214de1f1577", func := "tallyman/tallymanlaw29.ViewParts", spec := "viewParts", inPlace := ["internal/abi.NoEscape"], recurses := true, apart := false, narrowed := true }
def ViewPartsUptoSaid : Prop := viewPartsUptoRow.holds Try.pinned (OpenSpec.upto viewPartsSpec)

/-- 'tallymanlaw20.MsgMany', WHERE WHAT IT READS IS OF BULK AT MOST 1048576: true; the input reads as it did. -/
def msgManyUptoRow : OpenClaim := { program := "ytinomilmccopnaa", sum := "3e1a2af18db8ab9a0a8768ace2bc19d371e3149a702aa1df84653214de1f1577", func := "tallyman/tallymanlaw20.MsgMany", spec := "msgMany", apart := false, narrowed := true }
def MsgManyUptoSaid : Prop := msgManyUptoRow.holds Try.pinned (OpenSpec.upto msgManySpec)

/-- 'tallymanlaw12.PackCounts', WHERE WHAT IT READS IS OF BULK AT MOST 1048576: true; the input reads as it did. -/
def packCountsUptoRow : OpenClaim := { program := "ytinomilmccopnaa", sum := "3e1a2af18db8ab9a0a8768ace2bc19d371e3149a702aa1df84653214de1f1577", func := "tallyman/tallymanlaw12.PackCounts", spec := "packCounts", unfollowed := true, recurses := true, apart := false, narrowed := true }
def PackCountsUptoSaid : Prop := packCountsUptoRow.holds Try.pinned (OpenSpec.upto packCountsSpec)

/-- 'tallymanlaw12.PackEnds', WHERE WHAT IT READS IS OF BULK AT MOST 1048576: true; the input reads as it did. -/
def packEndsUptoRow : OpenClaim := { program := "ytinomilmccopnaa", sum := "3e1a2af18db8ab9a0a8768ace2bc19d371e3149a702aa1df84653214de1f1577", func := "tallyman/tallymanlaw12.PackEnds", spec := "packEnds", unfollowed := true, recurses := true, apart := false, narrowed := true }
def PackEndsUptoSaid : Prop := packEndsUptoRow.holds Try.pinned (OpenSpec.upto packEndsSpec)

/-- 'tallymanlaw20.MsgSame', WHERE WHAT IT READS IS OF BULK AT MOST 1048576: true; the input reads as it did. -/
def msgSameUptoRow : OpenClaim := { program := "ytinomilmccopnaa", sum := "3e1a2af18db8ab9a0a8768ace2bc19d371e3149a702aa1df84653214de1f1577", func := "tallyman/tallymanlaw20.MsgSame", spec := "msgSame", apart := false, narrowed := true }
def MsgSameUptoSaid : Prop := msgSameUptoRow.holds Try.pinned (OpenSpec.upto msgSameSpec)

/-- 'tallymanlaw12.PackThings', WHERE WHAT IT READS IS OF BULK AT MOST 1048576: true; the input reads as it did. -/
def packThingsUptoRow : OpenClaim := { program := "ytinomilmccopnaa", sum := "3e1a2af18db8ab9a0a8768ace2bc19d371e3149a702aa1df84653214de1f1577", func := "tallyman/tallymanlaw12.PackThings", spec := "packThings", unfollowed := true, recurses := true, apart := false, narrowed := true }
def PackThingsUptoSaid : Prop := packThingsUptoRow.holds Try.pinned (OpenSpec.upto packThingsSpec)

/-- 'tallymanlaw12.PackOutside', WHERE WHAT IT READS IS OF BULK AT MOST 1048576: true; the input reads as it did. -/
def packOutsideUptoRow : OpenClaim := { program := "ytinomilmccopnaa", sum := "3e1a2af18db8ab9a0a8768ace2bc19d371e3149a702aa1df84653214de1f1577", func := "tallyman/tallymanlaw12.PackOutside", spec := "packOutside", unfollowed := true, recurses := true, apart := false, narrowed := true }
def PackOutsideUptoSaid : Prop := packOutsideUptoRow.holds Try.pinned (OpenSpec.upto packOutsideSpec)

/-- 'tallymanlaw20.MsgBytes', WHERE WHAT IT READS IS OF BULK AT MOST 1048576: true; the input reads as it did. -/
def msgBytesUptoRow : OpenClaim := { program := "ytinomilmccopnaa", sum := "3e1a2af18db8ab9a0a8768ace2bc19d371e3149a702aa1df84653214de1f1577", func := "tallyman/tallymanlaw20.MsgBytes", spec := "msgBytes", unfollowed := true, recurses := true, apart := false, narrowed := true }
def MsgBytesUptoSaid : Prop := msgBytesUptoRow.holds Try.pinned (OpenSpec.upto msgBytesSpec)

/-- 'tallymanlaw20.MsgAny', WHERE WHAT IT READS IS OF BULK AT MOST 1048576: true; the input reads as it did. -/
def msgAnyUptoRow : OpenClaim := { program := "ytinomilmccopnaa", sum := "3e1a2af18db8ab9a0a8768ace2bc19d371e3149a702aa1df84653214de1f1577", func := "tallyman/tallymanlaw20.MsgAny", spec := "msgAny", unfollowed := true, recurses := true, apart := false, narrowed := true }
def MsgAnyUptoSaid : Prop := msgAnyUptoRow.holds Try.pinned (OpenSpec.upto msgAnySpec)

end Rows
end Go.Proofs.Ytinomilmccopnaa
