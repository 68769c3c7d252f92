/-
  DERIVED. GIVEN WITH THE SEED: THE CARDS: each row of YtocaabnbmcpjmaaGreatDoorRows.lean that lists a variable, with what it lists TIED to the program's text (the seventh form; the later family's looks); each row that meets fmt, with fmt's text TOLD by the authors' own Lean function (tested against real Go, not proved from fmt's source: count such statements apart). THE CARD IS WHAT COUNTS. Prove the row's statement (the work); the ties are given (YtocaabnbmcpjmaaGreatDoorTie.lean); close each card by the builder's one call (the guide's Derived/Test/ToyasCard.lean, 'card_holds'). Laid BY PROGRAM, IN A SANDBOX (cutbox-door.mjs). By AI agents, Wed Nov 11 2026. No macro, syntax, notation, axiom, sorry.
-/
import Derived.Test.YtocaabnbmcpjmaaGreatDoorRows
import GoSem.ClaimSeven
namespace Go.Proofs.YtocaabnbmcpjmaaGreatDoor
namespace Rows

/-- THE TIED CARD OF 'tallymanlaw23.HelperSetups'. -/
def helperSetupsCard : Claim7 := { stood := { row := helperSetupsRow, standIns := [], harness := (true, "3b2026f00db2f31cecfc97c5534bf3c4f97b0ad43f4c6d5dd51647e51d3bd13b"), looks := true }, kinds := [], alts := [], laidByText := true, laidKinds := [.data, .data], laidTests := true, laidLooks := .later }
def HelperSetupsCardSaid : Prop := Claim7.holds Tryz.pinned (.plain (OpenSpec.ofChange helperSetupsSpec)) helperSetupsCard

/-- THE TIED CARD OF 'tallymanlaw23.HelperTakes'. -/
def helperTakesCard : Claim7 := { stood := { row := helperTakesRow, standIns := [], harness := (true, "3b2026f00db2f31cecfc97c5534bf3c4f97b0ad43f4c6d5dd51647e51d3bd13b"), looks := true }, kinds := [], alts := [], laidByText := true, laidKinds := [.data, .data], laidTests := true, laidLooks := .later }
def HelperTakesCardSaid : Prop := Claim7.holds Tryz.pinned (.plain (OpenSpec.ofChange helperTakesSpec)) helperTakesCard

/-- THE TIED CARD OF 'tallymanlaw23.HelperNone'. -/
def helperNoneCard : Claim7 := { stood := { row := helperNoneRow, standIns := [], harness := (true, "3b2026f00db2f31cecfc97c5534bf3c4f97b0ad43f4c6d5dd51647e51d3bd13b"), looks := true }, kinds := [], alts := [], laidByText := true, laidKinds := [.data, .data], laidTests := true, laidLooks := .later }
def HelperNoneCardSaid : Prop := Claim7.holds Tryz.pinned (.plain (OpenSpec.ofChange helperNoneSpec)) helperNoneCard

/-- THE SECOND FORM's CARD OF 'tallymanlaw23.HelperSetups'. -/
def helperSetupsUptoCard : Claim7 := { stood := { row := helperSetupsUptoRow, standIns := [], harness := (true, "3b2026f00db2f31cecfc97c5534bf3c4f97b0ad43f4c6d5dd51647e51d3bd13b"), looks := true }, kinds := [], alts := [], laidByText := true, laidKinds := [.data, .data], laidTests := true, laidLooks := .later }
def HelperSetupsUptoCardSaid : Prop := Claim7.holds Tryz.pinned (.plain (OpenSpec.upto helperSetupsSpec)) helperSetupsUptoCard

/-- THE SECOND FORM's CARD OF 'tallymanlaw23.HelperTakes'. -/
def helperTakesUptoCard : Claim7 := { stood := { row := helperTakesUptoRow, standIns := [], harness := (true, "3b2026f00db2f31cecfc97c5534bf3c4f97b0ad43f4c6d5dd51647e51d3bd13b"), looks := true }, kinds := [], alts := [], laidByText := true, laidKinds := [.data, .data], laidTests := true, laidLooks := .later }
def HelperTakesUptoCardSaid : Prop := Claim7.holds Tryz.pinned (.plain (OpenSpec.upto helperTakesSpec)) helperTakesUptoCard

/-- THE SECOND FORM's CARD OF 'tallymanlaw23.HelperNone'. -/
def helperNoneUptoCard : Claim7 := { stood := { row := helperNoneUptoRow, standIns := [], harness := (true, "3b2026f00db2f31cecfc97c5534bf3c4f97b0ad43f4c6d5dd51647e51d3bd13b"), looks := true }, kinds := [], alts := [], laidByText := true, laidKinds := [.data, .data], laidTests := true, laidLooks := .later }
def HelperNoneUptoCardSaid : Prop := Claim7.holds Tryz.pinned (.plain (OpenSpec.upto helperNoneSpec)) helperNoneUptoCard
end Rows
end Go.Proofs.YtocaabnbmcpjmaaGreatDoor
