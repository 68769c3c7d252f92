/-
  DERIVED. GIVEN WITH THE SEED: THE CARDS: each row of YtfnjeojaahnlfaaDoorRows.lean that lists a variable, with what it lists TIED to the program's text (the seventh form; the later family's looks); each row that meets fmt, with fmt's text TOLD by the authors' own Lean function (tested against real Go, not proved from fmt's source: count such statements apart). THE CARD IS WHAT COUNTS. Prove the row's statement (the work); the ties are given (YtfnjeojaahnlfaaDoorTie.lean); close each card by the builder's one call (the guide's Derived/Test/ToyasCard.lean, 'card_holds'). Laid BY PROGRAM, IN A SANDBOX (cutbox-door.mjs). By AI agents, Wed Nov 11 2026. No macro, syntax, notation, axiom, sorry.
-/
import Derived.Test.YtfnjeojaahnlfaaDoorRows
import GoSem.ClaimSeven
namespace Go.Proofs.YtfnjeojaahnlfaaDoor
namespace Rows

/-- THE TIED CARD OF 'tallymanlaw28.ScriptHex'. -/
def scriptHexCard : Claim7 := { stood := { row := scriptHexRow, standIns := [], harness := (true, "4d8ddd7f5f69621ddfc132a0796e7284f4d53e7acd3e796e31f56c4dbd3689f5"), looks := true }, kinds := [], alts := [], laidByText := true, laidKinds := [.data, .listed, .data, .pinned], laidTests := true, laidLooks := .later }
def ScriptHexCardSaid : Prop := Claim7.holds Tryd.pinned (.plain (OpenSpec.ofChange scriptHexSpec)) scriptHexCard

/-- THE TIED CARD OF 'tallymanlaw28.ScriptMany'. -/
def scriptManyCard : Claim7 := { stood := { row := scriptManyRow, standIns := [], harness := (true, "4d8ddd7f5f69621ddfc132a0796e7284f4d53e7acd3e796e31f56c4dbd3689f5"), looks := true }, kinds := [], alts := [], laidByText := true, laidKinds := [.data, .listed, .data, .pinned], laidTests := true, laidLooks := .later }
def ScriptManyCardSaid : Prop := Claim7.holds Tryd.pinned (.plain (OpenSpec.ofChange scriptManySpec)) scriptManyCard

/-- THE SECOND FORM's CARD OF 'tallymanlaw28.ScriptHex'. -/
def scriptHexUptoCard : Claim7 := { stood := { row := scriptHexUptoRow, standIns := [], harness := (true, "4d8ddd7f5f69621ddfc132a0796e7284f4d53e7acd3e796e31f56c4dbd3689f5"), looks := true }, kinds := [], alts := [], laidByText := true, laidKinds := [.data, .listed, .data, .pinned], laidTests := true, laidLooks := .later }
def ScriptHexUptoCardSaid : Prop := Claim7.holds Tryd.pinned (.plain (OpenSpec.upto scriptHexSpec)) scriptHexUptoCard

/-- THE SECOND FORM's CARD OF 'tallymanlaw28.ScriptMany'. -/
def scriptManyUptoCard : Claim7 := { stood := { row := scriptManyUptoRow, standIns := [], harness := (true, "4d8ddd7f5f69621ddfc132a0796e7284f4d53e7acd3e796e31f56c4dbd3689f5"), looks := true }, kinds := [], alts := [], laidByText := true, laidKinds := [.data, .listed, .data, .pinned], laidTests := true, laidLooks := .later }
def ScriptManyUptoCardSaid : Prop := Claim7.holds Tryd.pinned (.plain (OpenSpec.upto scriptManySpec)) scriptManyUptoCard
end Rows
end Go.Proofs.YtfnjeojaahnlfaaDoor
