/-
  DERIVED. GIVEN WITH THE SEED: THE CARDS: each row of YtmonkggoilhngaaGreatDoorRows.lean that lists a variable, with what it lists TIED to the program's text (the seventh form; the later family's looks); each row that meets fmt, with fmt's text TOLD by the authors' own Lean function (tested against real Go, not proved from fmt's source: count such statements apart). THE CARD IS WHAT COUNTS. Prove the row's statement (the work); the ties are given (YtmonkggoilhngaaGreatDoorTie.lean); close each card by the builder's one call (the guide's Derived/Test/ToyasCard.lean, 'card_holds'). Laid BY PROGRAM, IN A SANDBOX (cutbox-door.mjs). By AI agents, Wed Nov 11 2026. No macro, syntax, notation, axiom, sorry.
-/
import Derived.Test.YtmonkggoilhngaaGreatDoorRows
import GoSem.ClaimSeven
namespace Go.Proofs.YtmonkggoilhngaaGreatDoor
namespace Rows

/-- THE TIED CARD OF 'custumallaw30.ExtractStands'. -/
def extractStandsCard : Claim7 := { stood := { row := extractStandsRow, standIns := [], harness := (true, "7c26eec3e4c46b31fd945533502da85b0112ef8e2eda4a4ba5a17c1904cf4b00"), looks := false }, kinds := [], alts := [], laidByText := true, laidKinds := [.wider, .data, .data, .data, .data, .data, .wider, .data, .data, .data, .data], laidTests := true, laidLooks := .later }
def ExtractStandsCardSaid : Prop := Claim7.holds Tryz.pinned (.plain (OpenSpec.ofChange extractStandsSpec)) extractStandsCard

/-- THE TIED CARD OF 'custumallaw30.ExtractLooks'. -/
def extractLooksCard : Claim7 := { stood := { row := extractLooksRow, standIns := [], harness := (true, "7c26eec3e4c46b31fd945533502da85b0112ef8e2eda4a4ba5a17c1904cf4b00"), looks := false }, kinds := [], alts := [], laidByText := true, laidKinds := [.wider, .data, .data, .data, .data, .data, .wider, .data, .data, .data, .data], laidTests := true, laidLooks := .later }
def ExtractLooksCardSaid : Prop := Claim7.holds Tryz.pinned (.plain (OpenSpec.ofChange extractLooksSpec)) extractLooksCard

/-- THE SECOND FORM's CARD OF 'custumallaw30.ExtractStands'. -/
def extractStandsUptoCard : Claim7 := { stood := { row := extractStandsUptoRow, standIns := [], harness := (true, "7c26eec3e4c46b31fd945533502da85b0112ef8e2eda4a4ba5a17c1904cf4b00"), looks := false }, kinds := [], alts := [], laidByText := true, laidKinds := [.wider, .data, .data, .data, .data, .data, .wider, .data, .data, .data, .data], laidTests := true, laidLooks := .later }
def ExtractStandsUptoCardSaid : Prop := Claim7.holds Tryz.pinned (.plain (OpenSpec.upto extractStandsSpec)) extractStandsUptoCard

/-- THE SECOND FORM's CARD OF 'custumallaw30.ExtractLooks'. -/
def extractLooksUptoCard : Claim7 := { stood := { row := extractLooksUptoRow, standIns := [], harness := (true, "7c26eec3e4c46b31fd945533502da85b0112ef8e2eda4a4ba5a17c1904cf4b00"), looks := false }, kinds := [], alts := [], laidByText := true, laidKinds := [.wider, .data, .data, .data, .data, .data, .wider, .data, .data, .data, .data], laidTests := true, laidLooks := .later }
def ExtractLooksUptoCardSaid : Prop := Claim7.holds Tryz.pinned (.plain (OpenSpec.upto extractLooksSpec)) extractLooksUptoCard
end Rows
end Go.Proofs.YtmonkggoilhngaaGreatDoor
