/-
  DERIVED. GIVEN WITH THE SEED: THE CARDS: each row of YtfodadedkilgdaaGreatDoorRows.lean that lists a variable, with what it lists TIED to the program's text (the seventh form; the later family's looks); each row that meets fmt, with fmt's text TOLD by the authors' own Lean function (tested against real Go, not proved from fmt's source: count such statements apart). THE CARD IS WHAT COUNTS. Prove the row's statement (the work); the ties are given (YtfodadedkilgdaaGreatDoorTie.lean); close each card by the builder's one call (the guide's Derived/Test/ToyasCard.lean, 'card_holds'). Laid BY PROGRAM, IN A SANDBOX (cutbox-door.mjs). By AI agents, Wed Nov 11 2026. No macro, syntax, notation, axiom, sorry.
-/
import Derived.Test.YtfodadedkilgdaaGreatDoorRows
import GoSem.ClaimSeven
namespace Go.Proofs.YtfodadedkilgdaaGreatDoor
namespace Rows

/-- THE TIED CARD OF 'custumallaw26.HostClock'. -/
def hostClockCard : Claim7 := { stood := { row := hostClockRow, standIns := [], harness := (true, "981a30249064db690c6f96ef89dd2751acf060266dc9a4ebc6f80396dd89858e"), looks := false }, kinds := [], alts := [], laidByText := true, laidKinds := [.wider, .data, .data, .data, .data, .data, .wider, .data, .data, .data, .data], laidTests := true, laidLooks := .later }
def HostClockCardSaid : Prop := Claim7.holds Tryz.pinned (.plain (OpenSpec.ofChange hostClockSpec)) hostClockCard

/-- THE SECOND FORM's CARD OF 'custumallaw26.HostClock'. -/
def hostClockUptoCard : Claim7 := { stood := { row := hostClockUptoRow, standIns := [], harness := (true, "981a30249064db690c6f96ef89dd2751acf060266dc9a4ebc6f80396dd89858e"), looks := false }, kinds := [], alts := [], laidByText := true, laidKinds := [.wider, .data, .data, .data, .data, .data, .wider, .data, .data, .data, .data], laidTests := true, laidLooks := .later }
def HostClockUptoCardSaid : Prop := Claim7.holds Tryz.pinned (.plain (OpenSpec.upto hostClockSpec)) hostClockUptoCard
end Rows
end Go.Proofs.YtfodadedkilgdaaGreatDoor
