/-
  DERIVED. GIVEN WITH THE SEED: THE CARDS: each row of YtjkbpdobeljmjaaGreatDoorRows.lean that lists a variable, with what it lists TIED to the program's text (the seventh form; the later family's looks); each row that meets fmt, with fmt's text TOLD by the authors' own Lean function (tested against real Go, not proved from fmt's source: count such statements apart). THE CARD IS WHAT COUNTS. Prove the row's statement (the work); the ties are given (YtjkbpdobeljmjaaGreatDoorTie.lean); close each card by the builder's one call (the guide's Derived/Test/ToyasCard.lean, 'card_holds'). Laid BY PROGRAM, IN A SANDBOX (cutbox-door.mjs). By AI agents, Wed Nov 11 2026. No macro, syntax, notation, axiom, sorry.
-/
import Derived.Test.YtjkbpdobeljmjaaGreatDoorRows
import GoSem.ClaimSeven
namespace Go.Proofs.YtjkbpdobeljmjaaGreatDoor
namespace Rows

/-- THE TIED CARD OF 'custumallaw28.VerifyGrows'. -/
def verifyGrowsCard : Claim7 := { stood := { row := verifyGrowsRow, standIns := [], harness := (true, "cde1374148320a38183bbc0a6d79bc93d9888c19d66219042a172502e13a263d"), looks := false }, kinds := [], alts := [], laidByText := true, laidKinds := [.wider, .data, .data, .data, .data, .data, .wider, .data, .data, .data, .data], laidTests := true, laidLooks := .later }
def VerifyGrowsCardSaid : Prop := Claim7.holds Tryz.pinned (.plain (OpenSpec.ofChange verifyGrowsSpec)) verifyGrowsCard

/-- THE SECOND FORM's CARD OF 'custumallaw28.VerifyGrows'. -/
def verifyGrowsUptoCard : Claim7 := { stood := { row := verifyGrowsUptoRow, standIns := [], harness := (true, "cde1374148320a38183bbc0a6d79bc93d9888c19d66219042a172502e13a263d"), looks := false }, kinds := [], alts := [], laidByText := true, laidKinds := [.wider, .data, .data, .data, .data, .data, .wider, .data, .data, .data, .data], laidTests := true, laidLooks := .later }
def VerifyGrowsUptoCardSaid : Prop := Claim7.holds Tryz.pinned (.plain (OpenSpec.upto verifyGrowsSpec)) verifyGrowsUptoCard
end Rows
end Go.Proofs.YtjkbpdobeljmjaaGreatDoor
