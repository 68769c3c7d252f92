/-
  No cell of these rows narrows 'for every input' (looked for: loops, veiled, ifaces, maps, wideKeys, modest, calm, conditions, laid).
  DERIVED. THE GIVEN ROWS OF THIS SEAT. 9 by the template 'for every input the law returns true; each argument reads behind the call as it read before'; 0 by the template 'total and deterministic' (their statements: YtemhhhikopemmaaTotals.lean).
  GIVEN WITH THE SEED: the statements are not yours to turn. If you find one false, say at which input.
  Laid BY PROGRAM, IN A SANDBOX (cutbox-rows.mjs): the forced cells as the released guide's own fill.sh prints them over the translation ed896ad2cc196f17… (all of the seat's roots in one cut). By AI agents, Wed Nov 11 2026. No macro, syntax, notation, axiom, sorry.
-/
import Derived.Test.YtemhhhikopemmaaChecked
import GoSem.Claim
import GoSem.ClaimJoined
import GoSem.ClaimMapViews
import Derived.JoinedTies
import Derived.KernelRfl
namespace Go.Proofs.Ytemhhhikopemmaa
/- THE CELL 'sum', in the pinned program and in every row, IS THE sha256 OF THE DUMP (.gsa) THAT YtemhhhikopemmaaProg.lean LOADS. Nothing in Lean hashes anything: it is a label: what it is worth is what the hold of that sum in a sandbox is worth. -/
noncomputable def Try.pinned : Pinned := { name := "ytemhhhikopemmaa", sum := "ed896ad2cc196f17510977aa7346c4a670668845e6e6dc3aee91b693495d815e", checked := Try.checked }
namespace Rows
def none {H : Type} : Left H := { results := [], args := [] }

/-- 'tallymanlaw17.JournalLays': WHATEVER THE INPUT: true; the input reads as it did. -/
def journalLaysSpec : ChangeSpec := { name := "journalLays", fn := fun _ => fun
  | [d1, d2, d3] => { results := [.lit (.bool true)], args := [d1, d2, d3] }
  | _ => none }
def journalLaysRow : OpenClaim := { program := "ytemhhhikopemmaa", sum := "ed896ad2cc196f17510977aa7346c4a670668845e6e6dc3aee91b693495d815e", func := "tallyman/tallymanlaw17.JournalLays", spec := "journalLays", unfollowed := true, recurses := true, apart := false }
def JournalLaysSaid : Prop := journalLaysRow.holds Try.pinned (OpenSpec.ofChange journalLaysSpec)

/-- ITS FALSE NEIGHBOUR: 'it returns false'. Refute it at one input. -/
def journalLaysWrong : ChangeSpec := { name := "journalLays", fn := fun _ => fun
  | [d1, d2, d3] => { results := [.lit (.bool false)], args := [d1, d2, d3] }
  | _ => none }
def JournalLaysWrongFalsely : Prop := journalLaysRow.holds Try.pinned (OpenSpec.ofChange journalLaysWrong)

/-- 'tallymanlaw17.JournalSpoilt': WHATEVER THE INPUT: true; the input reads as it did. -/
def journalSpoiltSpec : ChangeSpec := { name := "journalSpoilt", fn := fun _ => fun
  | [d1, d2] => { results := [.lit (.bool true)], args := [d1, d2] }
  | _ => none }
def journalSpoiltRow : OpenClaim := { program := "ytemhhhikopemmaa", sum := "ed896ad2cc196f17510977aa7346c4a670668845e6e6dc3aee91b693495d815e", func := "tallyman/tallymanlaw17.JournalSpoilt", spec := "journalSpoilt", unfollowed := true, recurses := true, apart := false }
def JournalSpoiltSaid : Prop := journalSpoiltRow.holds Try.pinned (OpenSpec.ofChange journalSpoiltSpec)

/-- ITS FALSE NEIGHBOUR: 'it returns false'. Refute it at one input. -/
def journalSpoiltWrong : ChangeSpec := { name := "journalSpoilt", fn := fun _ => fun
  | [d1, d2] => { results := [.lit (.bool false)], args := [d1, d2] }
  | _ => none }
def JournalSpoiltWrongFalsely : Prop := journalSpoiltRow.holds Try.pinned (OpenSpec.ofChange journalSpoiltWrong)

/-- 'tallymanlaw17.JournalErrors': WHATEVER THE INPUT: true; the input reads as it did. -/
def journalErrorsSpec : ChangeSpec := { name := "journalErrors", fn := fun _ => fun
  | [d1, d2] => { results := [.lit (.bool true)], args := [d1, d2] }
  | _ => none }
def journalErrorsRow : OpenClaim := { program := "ytemhhhikopemmaa", sum := "ed896ad2cc196f17510977aa7346c4a670668845e6e6dc3aee91b693495d815e", func := "tallyman/tallymanlaw17.JournalErrors", spec := "journalErrors", unfollowed := true, recurses := true, apart := false }
def JournalErrorsSaid : Prop := journalErrorsRow.holds Try.pinned (OpenSpec.ofChange journalErrorsSpec)

/-- ITS FALSE NEIGHBOUR: 'it returns false'. Refute it at one input. -/
def journalErrorsWrong : ChangeSpec := { name := "journalErrors", fn := fun _ => fun
  | [d1, d2] => { results := [.lit (.bool false)], args := [d1, d2] }
  | _ => none }
def JournalErrorsWrongFalsely : Prop := journalErrorsRow.holds Try.pinned (OpenSpec.ofChange journalErrorsWrong)

/-- 'tallymanlaw16.DiskMany': WHATEVER THE INPUT: true; the input reads as it did. -/
def diskManySpec : ChangeSpec := { name := "diskMany", fn := fun _ => fun
  | [d] => { results := [.lit (.bool true)], args := [d] }
  | _ => none }
def diskManyRow : OpenClaim := { program := "ytemhhhikopemmaa", sum := "ed896ad2cc196f17510977aa7346c4a670668845e6e6dc3aee91b693495d815e", func := "tallyman/tallymanlaw16.DiskMany", spec := "diskMany", recurses := true, apart := false }
def DiskManySaid : Prop := diskManyRow.holds Try.pinned (OpenSpec.ofChange diskManySpec)

/-- ITS FALSE NEIGHBOUR: 'it returns false'. Refute it at one input. -/
def diskManyWrong : ChangeSpec := { name := "diskMany", fn := fun _ => fun
  | [d] => { results := [.lit (.bool false)], args := [d] }
  | _ => none }
def DiskManyWrongFalsely : Prop := diskManyRow.holds Try.pinned (OpenSpec.ofChange diskManyWrong)

/-- 'tallymanlaw16.DiskKeeps': WHATEVER THE INPUT: true; the input reads as it did. -/
def diskKeepsSpec : ChangeSpec := { name := "diskKeeps", fn := fun _ => fun
  | [d1, d2, d3] => { results := [.lit (.bool true)], args := [d1, d2, d3] }
  | _ => none }
def diskKeepsRow : OpenClaim := { program := "ytemhhhikopemmaa", sum := "ed896ad2cc196f17510977aa7346c4a670668845e6e6dc3aee91b693495d815e", func := "tallyman/tallymanlaw16.DiskKeeps", spec := "diskKeeps", recurses := true, apart := false }
def DiskKeepsSaid : Prop := diskKeepsRow.holds Try.pinned (OpenSpec.ofChange diskKeepsSpec)

/-- ITS FALSE NEIGHBOUR: 'it returns false'. Refute it at one input. -/
def diskKeepsWrong : ChangeSpec := { name := "diskKeeps", fn := fun _ => fun
  | [d1, d2, d3] => { results := [.lit (.bool false)], args := [d1, d2, d3] }
  | _ => none }
def DiskKeepsWrongFalsely : Prop := diskKeepsRow.holds Try.pinned (OpenSpec.ofChange diskKeepsWrong)

/-- 'tallymanlaw16.DiskPlays': WHATEVER THE INPUT: true; the input reads as it did. -/
def diskPlaysSpec : ChangeSpec := { name := "diskPlays", fn := fun _ => fun
  | [d1, d2] => { results := [.lit (.bool true)], args := [d1, d2] }
  | _ => none }
def diskPlaysRow : OpenClaim := { program := "ytemhhhikopemmaa", sum := "ed896ad2cc196f17510977aa7346c4a670668845e6e6dc3aee91b693495d815e", func := "tallyman/tallymanlaw16.DiskPlays", spec := "diskPlays", recurses := true, apart := false }
def DiskPlaysSaid : Prop := diskPlaysRow.holds Try.pinned (OpenSpec.ofChange diskPlaysSpec)

/-- ITS FALSE NEIGHBOUR: 'it returns false'. Refute it at one input. -/
def diskPlaysWrong : ChangeSpec := { name := "diskPlays", fn := fun _ => fun
  | [d1, d2] => { results := [.lit (.bool false)], args := [d1, d2] }
  | _ => none }
def DiskPlaysWrongFalsely : Prop := diskPlaysRow.holds Try.pinned (OpenSpec.ofChange diskPlaysWrong)

/-- 'tallymanlaw16.DiskNone': WHATEVER THE INPUT: true; the input reads as it did. -/
def diskNoneSpec : ChangeSpec := { name := "diskNone", fn := fun _ => fun
  | [d1, d2, d3] => { results := [.lit (.bool true)], args := [d1, d2, d3] }
  | _ => none }
def diskNoneRow : OpenClaim := { program := "ytemhhhikopemmaa", sum := "ed896ad2cc196f17510977aa7346c4a670668845e6e6dc3aee91b693495d815e", func := "tallyman/tallymanlaw16.DiskNone", spec := "diskNone", recurses := true, apart := false }
def DiskNoneSaid : Prop := diskNoneRow.holds Try.pinned (OpenSpec.ofChange diskNoneSpec)

/-- ITS FALSE NEIGHBOUR: 'it returns false'. Refute it at one input. -/
def diskNoneWrong : ChangeSpec := { name := "diskNone", fn := fun _ => fun
  | [d1, d2, d3] => { results := [.lit (.bool false)], args := [d1, d2, d3] }
  | _ => none }
def DiskNoneWrongFalsely : Prop := diskNoneRow.holds Try.pinned (OpenSpec.ofChange diskNoneWrong)

/-- 'tallymanlaw17.JournalCrashes': WHATEVER THE INPUT: true; the input reads as it did. -/
def journalCrashesSpec : ChangeSpec := { name := "journalCrashes", fn := fun _ => fun
  | [d1, d2, d3] => { results := [.lit (.bool true)], args := [d1, d2, d3] }
  | _ => none }
def journalCrashesRow : OpenClaim := { program := "ytemhhhikopemmaa", sum := "ed896ad2cc196f17510977aa7346c4a670668845e6e6dc3aee91b693495d815e", func := "tallyman/tallymanlaw17.JournalCrashes", spec := "journalCrashes", unfollowed := true, recurses := true, apart := false }
def JournalCrashesSaid : Prop := journalCrashesRow.holds Try.pinned (OpenSpec.ofChange journalCrashesSpec)

/-- ITS FALSE NEIGHBOUR: 'it returns false'. Refute it at one input. -/
def journalCrashesWrong : ChangeSpec := { name := "journalCrashes", fn := fun _ => fun
  | [d1, d2, d3] => { results := [.lit (.bool false)], args := [d1, d2, d3] }
  | _ => none }
def JournalCrashesWrongFalsely : Prop := journalCrashesRow.holds Try.pinned (OpenSpec.ofChange journalCrashesWrong)

/-- 'tallymanlaw17.JournalTorn': WHATEVER THE INPUT: true; the input reads as it did. -/
def journalTornSpec : ChangeSpec := { name := "journalTorn", fn := fun _ => fun
  | [d1, d2, d3] => { results := [.lit (.bool true)], args := [d1, d2, d3] }
  | _ => none }
def journalTornRow : OpenClaim := { program := "ytemhhhikopemmaa", sum := "ed896ad2cc196f17510977aa7346c4a670668845e6e6dc3aee91b693495d815e", func := "tallyman/tallymanlaw17.JournalTorn", spec := "journalTorn", unfollowed := true, recurses := true, apart := false }
def JournalTornSaid : Prop := journalTornRow.holds Try.pinned (OpenSpec.ofChange journalTornSpec)

/-- ITS FALSE NEIGHBOUR: 'it returns false'. Refute it at one input. -/
def journalTornWrong : ChangeSpec := { name := "journalTorn", fn := fun _ => fun
  | [d1, d2, d3] => { results := [.lit (.bool false)], args := [d1, d2, d3] }
  | _ => none }
def JournalTornWrongFalsely : Prop := journalTornRow.holds Try.pinned (OpenSpec.ofChange journalTornWrong)

/- THE SECOND FORM. 'bulk': how many values and letters a reading holds, each counted each time it is reached (what is shared counts as often as it is met; a slice's spare places count too). A statement '..UptoSaid' is the law's where the arguments, and the package variables that the reading takes, are together of bulk at most 1048576: NARROWER than '..Said'. Prove '..Said' where nothing that the law and all that it calls make is longer than what came in: it says more and counts as full. Else prove '..UptoSaid'. A law counts once. -/
mutual
def uptoBulk {H : Type} : DataW H → Nat
  | .lit (.string bytes) => bytes.length + 1
  | .lit _ => 1
  | .nil => 1
  | .ptr d => uptoBulk d + 1
  | .slice elems spare => uptoBulkAll elems + uptoBulkAll spare + 1
  | .agg parts => uptoBulkAll parts + 1
  | .iface _ d => uptoBulk d + 1
  | .map entries => uptoBulkEntries entries + 1
  | .held _ => 1
def uptoBulkAll {H : Type} : List (DataW H) → Nat
  | [] => 0
  | d :: r => uptoBulk d + uptoBulkAll r
def uptoBulkEntries {H : Type} : List (Lit × DataW H) → Nat
  | [] => 0
  | x :: r => uptoBulkEntry x + uptoBulkEntries r
def uptoBulkEntry {H : Type} : Lit × DataW H → Nat
  | (.string bytes, d) => bytes.length + uptoBulk d + 1
  | (_, d) => uptoBulk d + 1
 end
def uptoSmall : (H : Type) → List (DataW H) → Bool := fun _ ds => decide (uptoBulkAll ds ≤ 1048576)
def OpenSpec.upto (s : _root_.Go.ChangeSpec) : _root_.Go.OpenSpec := { _root_.Go.OpenSpec.ofChange s with cond := some uptoSmall }

/-- 'tallymanlaw17.JournalLays', WHERE WHAT IT READS IS OF BULK AT MOST 1048576: true; the input reads as it did. -/
def journalLaysUptoRow : OpenClaim := { program := "ytemhhhikopemmaa", sum := "ed896ad2cc196f17510977aa7346c4a670668845e6e6dc3aee91b693495d815e", func := "tallyman/tallymanlaw17.JournalLays", spec := "journalLays", unfollowed := true, recurses := true, apart := false, narrowed := true }
def JournalLaysUptoSaid : Prop := journalLaysUptoRow.holds Try.pinned (OpenSpec.upto journalLaysSpec)

/-- 'tallymanlaw17.JournalSpoilt', WHERE WHAT IT READS IS OF BULK AT MOST 1048576: true; the input reads as it did. -/
def journalSpoiltUptoRow : OpenClaim := { program := "ytemhhhikopemmaa", sum := "ed896ad2cc196f17510977aa7346c4a670668845e6e6dc3aee91b693495d815e", func := "tallyman/tallymanlaw17.JournalSpoilt", spec := "journalSpoilt", unfollowed := true, recurses := true, apart := false, narrowed := true }
def JournalSpoiltUptoSaid : Prop := journalSpoiltUptoRow.holds Try.pinned (OpenSpec.upto journalSpoiltSpec)

/-- 'tallymanlaw17.JournalErrors', WHERE WHAT IT READS IS OF BULK AT MOST 1048576: true; the input reads as it did. -/
def journalErrorsUptoRow : OpenClaim := { program := "ytemhhhikopemmaa", sum := "ed896ad2cc196f17510977aa7346c4a670668845e6e6dc3aee91b693495d815e", func := "tallyman/tallymanlaw17.JournalErrors", spec := "journalErrors", unfollowed := true, recurses := true, apart := false, narrowed := true }
def JournalErrorsUptoSaid : Prop := journalErrorsUptoRow.holds Try.pinned (OpenSpec.upto journalErrorsSpec)

/-- 'tallymanlaw16.DiskMany', WHERE WHAT IT READS IS OF BULK AT MOST 1048576: true; the input reads as it did. -/
def diskManyUptoRow : OpenClaim := { program := "ytemhhhikopemmaa", sum := "ed896ad2cc196f17510977aa7346c4a670668845e6e6dc3aee91b693495d815e", func := "tallyman/tallymanlaw16.DiskMany", spec := "diskMany", recurses := true, apart := false, narrowed := true }
def DiskManyUptoSaid : Prop := diskManyUptoRow.holds Try.pinned (OpenSpec.upto diskManySpec)

/-- 'tallymanlaw16.DiskKeeps', WHERE WHAT IT READS IS OF BULK AT MOST 1048576: true; the input reads as it did. -/
def diskKeepsUptoRow : OpenClaim := { program := "ytemhhhikopemmaa", sum := "ed896ad2cc196f17510977aa7346c4a670668845e6e6dc3aee91b693495d815e", func := "tallyman/tallymanlaw16.DiskKeeps", spec := "diskKeeps", recurses := true, apart := false, narrowed := true }
def DiskKeepsUptoSaid : Prop := diskKeepsUptoRow.holds Try.pinned (OpenSpec.upto diskKeepsSpec)

/-- 'tallymanlaw16.DiskPlays', WHERE WHAT IT READS IS OF BULK AT MOST 1048576: true; the input reads as it did. -/
def diskPlaysUptoRow : OpenClaim := { program := "ytemhhhikopemmaa", sum := "ed896ad2cc196f17510977aa7346c4a670668845e6e6dc3aee91b693495d815e", func := "tallyman/tallymanlaw16.DiskPlays", spec := "diskPlays", recurses := true, apart := false, narrowed := true }
def DiskPlaysUptoSaid : Prop := diskPlaysUptoRow.holds Try.pinned (OpenSpec.upto diskPlaysSpec)

/-- 'tallymanlaw16.DiskNone', WHERE WHAT IT READS IS OF BULK AT MOST 1048576: true; the input reads as it did. -/
def diskNoneUptoRow : OpenClaim := { program := "ytemhhhikopemmaa", sum := "ed896ad2cc196f17510977aa7346c4a670668845e6e6dc3aee91b693495d815e", func := "tallyman/tallymanlaw16.DiskNone", spec := "diskNone", recurses := true, apart := false, narrowed := true }
def DiskNoneUptoSaid : Prop := diskNoneUptoRow.holds Try.pinned (OpenSpec.upto diskNoneSpec)

/-- 'tallymanlaw17.JournalCrashes', WHERE WHAT IT READS IS OF BULK AT MOST 1048576: true; the input reads as it did. -/
def journalCrashesUptoRow : OpenClaim := { program := "ytemhhhikopemmaa", sum := "ed896ad2cc196f17510977aa7346c4a670668845e6e6dc3aee91b693495d815e", func := "tallyman/tallymanlaw17.JournalCrashes", spec := "journalCrashes", unfollowed := true, recurses := true, apart := false, narrowed := true }
def JournalCrashesUptoSaid : Prop := journalCrashesUptoRow.holds Try.pinned (OpenSpec.upto journalCrashesSpec)

/-- 'tallymanlaw17.JournalTorn', WHERE WHAT IT READS IS OF BULK AT MOST 1048576: true; the input reads as it did. -/
def journalTornUptoRow : OpenClaim := { program := "ytemhhhikopemmaa", sum := "ed896ad2cc196f17510977aa7346c4a670668845e6e6dc3aee91b693495d815e", func := "tallyman/tallymanlaw17.JournalTorn", spec := "journalTorn", unfollowed := true, recurses := true, apart := false, narrowed := true }
def JournalTornUptoSaid : Prop := journalTornUptoRow.holds Try.pinned (OpenSpec.upto journalTornSpec)

end Rows
end Go.Proofs.Ytemhhhikopemmaa
