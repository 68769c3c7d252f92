/-
  No cell of these rows narrows 'for every input' (looked for: loops, veiled, ifaces, maps, wideKeys, modest, calm, conditions, laid).
  DERIVED. THE GIVEN ROWS OF THIS SEAT. 4 by the template 'for every input the law returns true; each argument reads behind the call as it read before'; 0 by the template 'total and deterministic' (their statements: YtdmeofobljjpfaaTotals.lean).
  GIVEN WITH THE SEED: the statements are not yours to turn. If you find one false, say at which input.
  Laid BY PROGRAM, IN A SANDBOX (cutbox-rows.mjs): the forced cells as the released guide's own fill.sh prints them over the translation 8a702b5ba243c23f… (all of the seat's roots in one cut). By AI agents, Wed Nov 11 2026. No macro, syntax, notation, axiom, sorry.
-/
import Derived.Test.YtdmeofobljjpfaaChecked
import GoSem.Claim
import GoSem.ClaimJoined
import GoSem.ClaimMapViews
import Derived.JoinedTies
import Derived.KernelRfl
namespace Go.Proofs.Ytdmeofobljjpfaa
/- THE CELL 'sum', in the pinned program and in every row, IS THE sha256 OF THE DUMP (.gsa) THAT YtdmeofobljjpfaaProg.lean LOADS. Nothing in Lean hashes anything: it is a label: what it is worth is what the hold of that sum in a sandbox is worth. -/
noncomputable def Try.pinned : Pinned := { name := "ytdmeofobljjpfaa", sum := "8a702b5ba243c23f5e64b38b0224dbd64e664fed686d53e1f8aec5e978091400", checked := Try.checked }
namespace Rows
def none {H : Type} : Left H := { results := [], args := [] }

/-- 'tallymanlaw19.BucketStarts': WHATEVER THE INPUT: true; the input reads as it did. -/
def bucketStartsSpec : ChangeSpec := { name := "bucketStarts", fn := fun _ => fun
  | [d1, d2, d3] => { results := [.lit (.bool true)], args := [d1, d2, d3] }
  | _ => none }
def bucketStartsRow : OpenClaim := { program := "ytdmeofobljjpfaa", sum := "8a702b5ba243c23f5e64b38b0224dbd64e664fed686d53e1f8aec5e978091400", func := "tallyman/tallymanlaw19.BucketStarts", spec := "bucketStarts", inPlace := ["math/bits.Add64", "math/bits.Sub64"], unfollowed := true, recurses := true, apart := false }
def BucketStartsSaid : Prop := bucketStartsRow.holds Try.pinned (OpenSpec.ofChange bucketStartsSpec)

/-- ITS FALSE NEIGHBOUR: 'it returns false'. Refute it at one input. -/
def bucketStartsWrong : ChangeSpec := { name := "bucketStarts", fn := fun _ => fun
  | [d1, d2, d3] => { results := [.lit (.bool false)], args := [d1, d2, d3] }
  | _ => none }
def BucketStartsWrongFalsely : Prop := bucketStartsRow.holds Try.pinned (OpenSpec.ofChange bucketStartsWrong)

/-- 'tallymanlaw19.BucketChecks': WHATEVER THE INPUT: true; the input reads as it did. -/
def bucketChecksSpec : ChangeSpec := { name := "bucketChecks", fn := fun _ => fun
  | [d1, d2, d3] => { results := [.lit (.bool true)], args := [d1, d2, d3] }
  | _ => none }
def bucketChecksRow : OpenClaim := { program := "ytdmeofobljjpfaa", sum := "8a702b5ba243c23f5e64b38b0224dbd64e664fed686d53e1f8aec5e978091400", func := "tallyman/tallymanlaw19.BucketChecks", spec := "bucketChecks", inPlace := ["math/bits.Add64", "math/bits.Sub64"], unfollowed := true, recurses := true, apart := false }
def BucketChecksSaid : Prop := bucketChecksRow.holds Try.pinned (OpenSpec.ofChange bucketChecksSpec)

/-- ITS FALSE NEIGHBOUR: 'it returns false'. Refute it at one input. -/
def bucketChecksWrong : ChangeSpec := { name := "bucketChecks", fn := fun _ => fun
  | [d1, d2, d3] => { results := [.lit (.bool false)], args := [d1, d2, d3] }
  | _ => none }
def BucketChecksWrongFalsely : Prop := bucketChecksRow.holds Try.pinned (OpenSpec.ofChange bucketChecksWrong)

/-- 'tallymanlaw19.BucketNone': WHATEVER THE INPUT: true; the input reads as it did. -/
def bucketNoneSpec : ChangeSpec := { name := "bucketNone", fn := fun _ => fun
  | [d1, d2, d3] => { results := [.lit (.bool true)], args := [d1, d2, d3] }
  | _ => none }
def bucketNoneRow : OpenClaim := { program := "ytdmeofobljjpfaa", sum := "8a702b5ba243c23f5e64b38b0224dbd64e664fed686d53e1f8aec5e978091400", func := "tallyman/tallymanlaw19.BucketNone", spec := "bucketNone", inPlace := ["math/bits.Add64", "math/bits.Sub64"], unfollowed := true, recurses := true, apart := false }
def BucketNoneSaid : Prop := bucketNoneRow.holds Try.pinned (OpenSpec.ofChange bucketNoneSpec)

/-- ITS FALSE NEIGHBOUR: 'it returns false'. Refute it at one input. -/
def bucketNoneWrong : ChangeSpec := { name := "bucketNone", fn := fun _ => fun
  | [d1, d2, d3] => { results := [.lit (.bool false)], args := [d1, d2, d3] }
  | _ => none }
def BucketNoneWrongFalsely : Prop := bucketNoneRow.holds Try.pinned (OpenSpec.ofChange bucketNoneWrong)

/-- 'tallymanlaw19.BucketPlays': WHATEVER THE INPUT: true; the input reads as it did. -/
def bucketPlaysSpec : ChangeSpec := { name := "bucketPlays", fn := fun _ => fun
  | [d1, d2, d3] => { results := [.lit (.bool true)], args := [d1, d2, d3] }
  | _ => none }
def bucketPlaysRow : OpenClaim := { program := "ytdmeofobljjpfaa", sum := "8a702b5ba243c23f5e64b38b0224dbd64e664fed686d53e1f8aec5e978091400", func := "tallyman/tallymanlaw19.BucketPlays", spec := "bucketPlays", inPlace := ["math/bits.Add64", "math/bits.Sub64"], unfollowed := true, recurses := true, apart := false }
def BucketPlaysSaid : Prop := bucketPlaysRow.holds Try.pinned (OpenSpec.ofChange bucketPlaysSpec)

/-- ITS FALSE NEIGHBOUR: 'it returns false'. Refute it at one input. -/
def bucketPlaysWrong : ChangeSpec := { name := "bucketPlays", fn := fun _ => fun
  | [d1, d2, d3] => { results := [.lit (.bool false)], args := [d1, d2, d3] }
  | _ => none }
def BucketPlaysWrongFalsely : Prop := bucketPlaysRow.holds Try.pinned (OpenSpec.ofChange bucketPlaysWrong)

/- THE SECOND FORM. 'bulk': how many values and letters a reading holds, each counted each time it is reached (what is shared counts as often as it is met; a slice's spare places count too). A statement '..UptoSaid' is the law's where the arguments, and the package variables that the reading takes, are together of bulk at most 1048576: NARROWER than '..Said'. Prove '..Said' where nothing that the law and all that it calls make is longer than what came in: it says more and counts as full. Else prove '..UptoSaid'. A law counts once. -/
mutual
def uptoBulk {H : Type} : DataW H → Nat
  | .lit (.string bytes) => bytes.length + 1
  | .lit _ => 1
  | .nil => 1
  | .ptr d => uptoBulk d + 1
  | .slice elems spare => uptoBulkAll elems + uptoBulkAll spare + 1
  | .agg parts => uptoBulkAll parts + 1
  | .iface _ d => uptoBulk d + 1
  | .map entries => uptoBulkEntries entries + 1
  | .held _ => 1
def uptoBulkAll {H : Type} : List (DataW H) → Nat
  | [] => 0
  | d :: r => uptoBulk d + uptoBulkAll r
def uptoBulkEntries {H : Type} : List (Lit × DataW H) → Nat
  | [] => 0
  | x :: r => uptoBulkEntry x + uptoBulkEntries r
def uptoBulkEntry {H : Type} : Lit × DataW H → Nat
  | (.string bytes, d) => bytes.length + uptoBulk d + 1
  | (_, d) => uptoBulk d + 1
 end
def uptoSmall : (H : Type) → List (DataW H) → Bool := fun _ ds => decide (uptoBulkAll ds ≤ 1048576)
def OpenSpec.upto (s : _root_.Go.ChangeSpec) : _root_.Go.OpenSpec := { _root_.Go.OpenSpec.ofChange s with cond := some uptoSmall }

/-- 'tallymanlaw19.BucketStarts', WHERE WHAT IT READS IS OF BULK AT MOST 1048576: true; the input reads as it did. -/
def bucketStartsUptoRow : OpenClaim := { program := "ytdmeofobljjpfaa", sum := "8a702b5ba243c23f5e64b38b0224dbd64e664fed686d53e1f8aec5e978091400", func := "tallyman/tallymanlaw19.BucketStarts", spec := "bucketStarts", inPlace := ["math/bits.Add64", "math/bits.Sub64"], unfollowed := true, recurses := true, apart := false, narrowed := true }
def BucketStartsUptoSaid : Prop := bucketStartsUptoRow.holds Try.pinned (OpenSpec.upto bucketStartsSpec)

/-- 'tallymanlaw19.BucketChecks', WHERE WHAT IT READS IS OF BULK AT MOST 1048576: true; the input reads as it did. -/
def bucketChecksUptoRow : OpenClaim := { program := "ytdmeofobljjpfaa", sum := "8a702b5ba243c23f5e64b38b0224dbd64e664fed686d53e1f8aec5e978091400", func := "tallyman/tallymanlaw19.BucketChecks", spec := "bucketChecks", inPlace := ["math/bits.Add64", "math/bits.Sub64"], unfollowed := true, recurses := true, apart := false, narrowed := true }
def BucketChecksUptoSaid : Prop := bucketChecksUptoRow.holds Try.pinned (OpenSpec.upto bucketChecksSpec)

/-- 'tallymanlaw19.BucketNone', WHERE WHAT IT READS IS OF BULK AT MOST 1048576: true; the input reads as it did. -/
def bucketNoneUptoRow : OpenClaim := { program := "ytdmeofobljjpfaa", sum := "8a702b5ba243c23f5e64b38b0224dbd64e664fed686d53e1f8aec5e978091400", func := "tallyman/tallymanlaw19.BucketNone", spec := "bucketNone", inPlace := ["math/bits.Add64", "math/bits.Sub64"], unfollowed := true, recurses := true, apart := false, narrowed := true }
def BucketNoneUptoSaid : Prop := bucketNoneUptoRow.holds Try.pinned (OpenSpec.upto bucketNoneSpec)

/-- 'tallymanlaw19.BucketPlays', WHERE WHAT IT READS IS OF BULK AT MOST 1048576: true; the input reads as it did. -/
def bucketPlaysUptoRow : OpenClaim := { program := "ytdmeofobljjpfaa", sum := "8a702b5ba243c23f5e64b38b0224dbd64e664fed686d53e1f8aec5e978091400", func := "tallyman/tallymanlaw19.BucketPlays", spec := "bucketPlays", inPlace := ["math/bits.Add64", "math/bits.Sub64"], unfollowed := true, recurses := true, apart := false, narrowed := true }
def BucketPlaysUptoSaid : Prop := bucketPlaysUptoRow.holds Try.pinned (OpenSpec.upto bucketPlaysSpec)

end Rows
end Go.Proofs.Ytdmeofobljjpfaa
