/-
  DERIVED. GIVEN WITH THE SEED: THE CARDS: each row of YtgfgpepdkffhbaaGreatDoorRows.lean that lists a variable, with what it lists TIED to the program's text (the seventh form; the later family's looks); each row that meets fmt, with fmt's text TOLD by the authors' own Lean function (tested against real Go, not proved from fmt's source: count such statements apart). THE CARD IS WHAT COUNTS. Prove the row's statement (the work); the ties are given (YtgfgpepdkffhbaaGreatDoorTie.lean); close each card by the builder's one call (the guide's Derived/Test/ToyasCard.lean, 'card_holds'). Laid BY PROGRAM, IN A SANDBOX (cutbox-door.mjs). By AI agents, Wed Nov 11 2026. No macro, syntax, notation, axiom, sorry.
-/
import Derived.Test.YtgfgpepdkffhbaaGreatDoorRows
import GoSem.ClaimSeven
namespace Go.Proofs.YtgfgpepdkffhbaaGreatDoor
namespace Rows

/-- THE TIED CARD OF 'klippelaw03.SurdRoots'. -/
def surdRootsCard : Claim7 := { stood := { row := surdRootsRow, standIns := [], harness := (true, "f1b19a1a8502c98c429d6d5bb85a5e05fea592b8d9ad630e78a097a71c7002d2"), looks := true }, kinds := [], alts := [], laidByText := true, laidKinds := [.data, .data, .data, .sentinel, .sentinel], laidTests := true, laidLooks := .later }
def SurdRootsCardSaid : Prop := Claim7.holds Tryz.pinned (.plain (OpenSpec.ofChange surdRootsSpec)) surdRootsCard

/-- THE TIED CARD OF 'klippelaw03.SurdRationals'. -/
def surdRationalsCard : Claim7 := { stood := { row := surdRationalsRow, standIns := [], harness := (true, "f1b19a1a8502c98c429d6d5bb85a5e05fea592b8d9ad630e78a097a71c7002d2"), looks := true }, kinds := [], alts := [], laidByText := true, laidKinds := [.data, .data, .data, .sentinel, .sentinel], laidTests := true, laidLooks := .later }
def SurdRationalsCardSaid : Prop := Claim7.holds Tryz.pinned (.plain (OpenSpec.ofChange surdRationalsSpec)) surdRationalsCard

/-- THE TIED CARD OF 'klippelaw03.SurdBounds'. -/
def surdBoundsCard : Claim7 := { stood := { row := surdBoundsRow, standIns := [], harness := (true, "f1b19a1a8502c98c429d6d5bb85a5e05fea592b8d9ad630e78a097a71c7002d2"), looks := true }, kinds := [], alts := [], laidByText := true, laidKinds := [.data, .data, .data, .sentinel, .sentinel], laidTests := true, laidLooks := .later }
def SurdBoundsCardSaid : Prop := Claim7.holds Tryz.pinned (.plain (OpenSpec.ofChange surdBoundsSpec)) surdBoundsCard

/-- THE TIED CARD OF 'klippelaw03.SurdTexts'. -/
def surdTextsCard : Claim7 := { stood := { row := surdTextsRow, standIns := [], harness := (true, "f1b19a1a8502c98c429d6d5bb85a5e05fea592b8d9ad630e78a097a71c7002d2"), looks := true }, kinds := [], alts := [], laidByText := true, laidKinds := [.data, .data, .data, .sentinel, .sentinel], laidTests := true, laidLooks := .later }
def SurdTextsCardSaid : Prop := Claim7.holds Tryz.pinned (.plain (OpenSpec.ofChange surdTextsSpec)) surdTextsCard

/-- THE TIED CARD OF 'klippelaw03.SurdScales'. -/
def surdScalesCard : Claim7 := { stood := { row := surdScalesRow, standIns := [], harness := (true, "f1b19a1a8502c98c429d6d5bb85a5e05fea592b8d9ad630e78a097a71c7002d2"), looks := true }, kinds := [], alts := [], laidByText := true, laidKinds := [.data, .data, .data, .sentinel, .sentinel], laidTests := true, laidLooks := .later }
def SurdScalesCardSaid : Prop := Claim7.holds Tryz.pinned (.plain (OpenSpec.ofChange surdScalesSpec)) surdScalesCard

/-- THE SECOND FORM's CARD OF 'klippelaw03.SurdRoots'. -/
def surdRootsUptoCard : Claim7 := { stood := { row := surdRootsUptoRow, standIns := [], harness := (true, "f1b19a1a8502c98c429d6d5bb85a5e05fea592b8d9ad630e78a097a71c7002d2"), looks := true }, kinds := [], alts := [], laidByText := true, laidKinds := [.data, .data, .data, .sentinel, .sentinel], laidTests := true, laidLooks := .later }
def SurdRootsUptoCardSaid : Prop := Claim7.holds Tryz.pinned (.plain (OpenSpec.upto surdRootsSpec)) surdRootsUptoCard

/-- THE SECOND FORM's CARD OF 'klippelaw03.SurdRationals'. -/
def surdRationalsUptoCard : Claim7 := { stood := { row := surdRationalsUptoRow, standIns := [], harness := (true, "f1b19a1a8502c98c429d6d5bb85a5e05fea592b8d9ad630e78a097a71c7002d2"), looks := true }, kinds := [], alts := [], laidByText := true, laidKinds := [.data, .data, .data, .sentinel, .sentinel], laidTests := true, laidLooks := .later }
def SurdRationalsUptoCardSaid : Prop := Claim7.holds Tryz.pinned (.plain (OpenSpec.upto surdRationalsSpec)) surdRationalsUptoCard

/-- THE SECOND FORM's CARD OF 'klippelaw03.SurdBounds'. -/
def surdBoundsUptoCard : Claim7 := { stood := { row := surdBoundsUptoRow, standIns := [], harness := (true, "f1b19a1a8502c98c429d6d5bb85a5e05fea592b8d9ad630e78a097a71c7002d2"), looks := true }, kinds := [], alts := [], laidByText := true, laidKinds := [.data, .data, .data, .sentinel, .sentinel], laidTests := true, laidLooks := .later }
def SurdBoundsUptoCardSaid : Prop := Claim7.holds Tryz.pinned (.plain (OpenSpec.upto surdBoundsSpec)) surdBoundsUptoCard

/-- THE SECOND FORM's CARD OF 'klippelaw03.SurdTexts'. -/
def surdTextsUptoCard : Claim7 := { stood := { row := surdTextsUptoRow, standIns := [], harness := (true, "f1b19a1a8502c98c429d6d5bb85a5e05fea592b8d9ad630e78a097a71c7002d2"), looks := true }, kinds := [], alts := [], laidByText := true, laidKinds := [.data, .data, .data, .sentinel, .sentinel], laidTests := true, laidLooks := .later }
def SurdTextsUptoCardSaid : Prop := Claim7.holds Tryz.pinned (.plain (OpenSpec.upto surdTextsSpec)) surdTextsUptoCard

/-- THE SECOND FORM's CARD OF 'klippelaw03.SurdScales'. -/
def surdScalesUptoCard : Claim7 := { stood := { row := surdScalesUptoRow, standIns := [], harness := (true, "f1b19a1a8502c98c429d6d5bb85a5e05fea592b8d9ad630e78a097a71c7002d2"), looks := true }, kinds := [], alts := [], laidByText := true, laidKinds := [.data, .data, .data, .sentinel, .sentinel], laidTests := true, laidLooks := .later }
def SurdScalesUptoCardSaid : Prop := Claim7.holds Tryz.pinned (.plain (OpenSpec.upto surdScalesSpec)) surdScalesUptoCard
end Rows
end Go.Proofs.YtgfgpepdkffhbaaGreatDoor
