/-
  DERIVED. GIVEN WITH THE SEED: THE CARDS: each row of YtkembhonfehlbaaDoorRows.lean that lists a variable, with what it lists TIED to the program's text (the seventh form; the later family's looks); each row that meets fmt, with fmt's text TOLD by the authors' own Lean function (tested against real Go, not proved from fmt's source: count such statements apart). THE CARD IS WHAT COUNTS. Prove the row's statement (the work); the ties are given (YtkembhonfehlbaaDoorTie.lean); close each card by the builder's one call (the guide's Derived/Test/ToyasCard.lean, 'card_holds'). Laid BY PROGRAM, IN A SANDBOX (cutbox-door.mjs). By AI agents, Wed Nov 11 2026. No macro, syntax, notation, axiom, sorry.
-/
import Derived.Test.YtkembhonfehlbaaDoorRows
import GoSem.ClaimSeven
namespace Go.Proofs.YtkembhonfehlbaaDoor
namespace Rows

/-- THE TIED CARD OF 'custumallaw17.CommitMakes'. -/
def commitMakesCard : Claim7 := { stood := { row := commitMakesRow, standIns := [], harness := (true, "6ec0decd8142a358938e7b34bc919a20ad520f1d02926ad82fbd1fc2c6b48423"), looks := false }, kinds := [], alts := [], laidByText := true, laidKinds := [.data, .data, .data, .data], laidTests := true, laidLooks := .later }
def CommitMakesCardSaid : Prop := Claim7.holds Tryd.pinned (.plain (OpenSpec.ofChange commitMakesSpec)) commitMakesCard

/-- THE TIED CARD OF 'custumallaw17.CommitOne'. -/
def commitOneCard : Claim7 := { stood := { row := commitOneRow, standIns := [], harness := (true, "6ec0decd8142a358938e7b34bc919a20ad520f1d02926ad82fbd1fc2c6b48423"), looks := false }, kinds := [], alts := [], laidByText := true, laidKinds := [.data, .data, .data, .data], laidTests := true, laidLooks := .later }
def CommitOneCardSaid : Prop := Claim7.holds Tryd.pinned (.plain (OpenSpec.ofChange commitOneSpec)) commitOneCard

/-- THE TIED CARD OF 'custumallaw17.CommitChecks'. -/
def commitChecksCard : Claim7 := { stood := { row := commitChecksRow, standIns := [], harness := (true, "6ec0decd8142a358938e7b34bc919a20ad520f1d02926ad82fbd1fc2c6b48423"), looks := false }, kinds := [], alts := [], laidByText := true, laidKinds := [.data, .data, .data, .data], laidTests := true, laidLooks := .later }
def CommitChecksCardSaid : Prop := Claim7.holds Tryd.pinned (.plain (OpenSpec.ofChange commitChecksSpec)) commitChecksCard

/-- THE TIED CARD OF 'custumallaw16.RfclogRoots'. -/
def rfclogRootsCard : Claim7 := { stood := { row := rfclogRootsRow, standIns := [], harness := (true, "6ec0decd8142a358938e7b34bc919a20ad520f1d02926ad82fbd1fc2c6b48423"), looks := false }, kinds := [], alts := [], laidByText := true, laidKinds := [.data, .data, .data, .data], laidTests := true, laidLooks := .later }
def RfclogRootsCardSaid : Prop := Claim7.holds Tryd.pinned (.plain (OpenSpec.ofChange rfclogRootsSpec)) rfclogRootsCard

/-- THE TIED CARD OF 'custumallaw30.ExtractFinds'. -/
def extractFindsCard : Claim7 := { stood := { row := extractFindsRow, standIns := [], harness := (true, "6ec0decd8142a358938e7b34bc919a20ad520f1d02926ad82fbd1fc2c6b48423"), looks := false }, kinds := [], alts := [], laidByText := true, laidKinds := [.data, .data, .data, .data], laidTests := true, laidLooks := .later }
def ExtractFindsCardSaid : Prop := Claim7.holds Tryd.pinned (.plain (OpenSpec.ofChange extractFindsSpec)) extractFindsCard

/-- THE TIED CARD OF 'custumallaw16.RfclogChecks'. -/
def rfclogChecksCard : Claim7 := { stood := { row := rfclogChecksRow, standIns := [], harness := (true, "6ec0decd8142a358938e7b34bc919a20ad520f1d02926ad82fbd1fc2c6b48423"), looks := false }, kinds := [], alts := [], laidByText := true, laidKinds := [.data, .data, .data, .data], laidTests := true, laidLooks := .later }
def RfclogChecksCardSaid : Prop := Claim7.holds Tryd.pinned (.plain (OpenSpec.ofChange rfclogChecksSpec)) rfclogChecksCard

/-- THE TIED CARD OF 'custumallaw16.RfclogGrows'. -/
def rfclogGrowsCard : Claim7 := { stood := { row := rfclogGrowsRow, standIns := [], harness := (true, "6ec0decd8142a358938e7b34bc919a20ad520f1d02926ad82fbd1fc2c6b48423"), looks := false }, kinds := [], alts := [], laidByText := true, laidKinds := [.data, .data, .data, .data], laidTests := true, laidLooks := .later }
def RfclogGrowsCardSaid : Prop := Claim7.holds Tryd.pinned (.plain (OpenSpec.ofChange rfclogGrowsSpec)) rfclogGrowsCard

/-- THE TIED CARD OF 'custumallaw16.RfclogShows'. -/
def rfclogShowsCard : Claim7 := { stood := { row := rfclogShowsRow, standIns := [], harness := (true, "6ec0decd8142a358938e7b34bc919a20ad520f1d02926ad82fbd1fc2c6b48423"), looks := false }, kinds := [], alts := [], laidByText := true, laidKinds := [.data, .data, .data, .data], laidTests := true, laidLooks := .later }
def RfclogShowsCardSaid : Prop := Claim7.holds Tryd.pinned (.plain (OpenSpec.ofChange rfclogShowsSpec)) rfclogShowsCard

/-- THE TIED CARD OF 'custumallaw16.RfclogBent'. -/
def rfclogBentCard : Claim7 := { stood := { row := rfclogBentRow, standIns := [], harness := (true, "6ec0decd8142a358938e7b34bc919a20ad520f1d02926ad82fbd1fc2c6b48423"), looks := false }, kinds := [], alts := [], laidByText := true, laidKinds := [.data, .data, .data, .data], laidTests := true, laidLooks := .later }
def RfclogBentCardSaid : Prop := Claim7.holds Tryd.pinned (.plain (OpenSpec.ofChange rfclogBentSpec)) rfclogBentCard

/-- THE SECOND FORM's CARD OF 'custumallaw17.CommitMakes'. -/
def commitMakesUptoCard : Claim7 := { stood := { row := commitMakesUptoRow, standIns := [], harness := (true, "6ec0decd8142a358938e7b34bc919a20ad520f1d02926ad82fbd1fc2c6b48423"), looks := false }, kinds := [], alts := [], laidByText := true, laidKinds := [.data, .data, .data, .data], laidTests := true, laidLooks := .later }
def CommitMakesUptoCardSaid : Prop := Claim7.holds Tryd.pinned (.plain (OpenSpec.upto commitMakesSpec)) commitMakesUptoCard

/-- THE SECOND FORM's CARD OF 'custumallaw17.CommitOne'. -/
def commitOneUptoCard : Claim7 := { stood := { row := commitOneUptoRow, standIns := [], harness := (true, "6ec0decd8142a358938e7b34bc919a20ad520f1d02926ad82fbd1fc2c6b48423"), looks := false }, kinds := [], alts := [], laidByText := true, laidKinds := [.data, .data, .data, .data], laidTests := true, laidLooks := .later }
def CommitOneUptoCardSaid : Prop := Claim7.holds Tryd.pinned (.plain (OpenSpec.upto commitOneSpec)) commitOneUptoCard

/-- THE SECOND FORM's CARD OF 'custumallaw17.CommitChecks'. -/
def commitChecksUptoCard : Claim7 := { stood := { row := commitChecksUptoRow, standIns := [], harness := (true, "6ec0decd8142a358938e7b34bc919a20ad520f1d02926ad82fbd1fc2c6b48423"), looks := false }, kinds := [], alts := [], laidByText := true, laidKinds := [.data, .data, .data, .data], laidTests := true, laidLooks := .later }
def CommitChecksUptoCardSaid : Prop := Claim7.holds Tryd.pinned (.plain (OpenSpec.upto commitChecksSpec)) commitChecksUptoCard

/-- THE SECOND FORM's CARD OF 'custumallaw16.RfclogRoots'. -/
def rfclogRootsUptoCard : Claim7 := { stood := { row := rfclogRootsUptoRow, standIns := [], harness := (true, "6ec0decd8142a358938e7b34bc919a20ad520f1d02926ad82fbd1fc2c6b48423"), looks := false }, kinds := [], alts := [], laidByText := true, laidKinds := [.data, .data, .data, .data], laidTests := true, laidLooks := .later }
def RfclogRootsUptoCardSaid : Prop := Claim7.holds Tryd.pinned (.plain (OpenSpec.upto rfclogRootsSpec)) rfclogRootsUptoCard

/-- THE SECOND FORM's CARD OF 'custumallaw30.ExtractFinds'. -/
def extractFindsUptoCard : Claim7 := { stood := { row := extractFindsUptoRow, standIns := [], harness := (true, "6ec0decd8142a358938e7b34bc919a20ad520f1d02926ad82fbd1fc2c6b48423"), looks := false }, kinds := [], alts := [], laidByText := true, laidKinds := [.data, .data, .data, .data], laidTests := true, laidLooks := .later }
def ExtractFindsUptoCardSaid : Prop := Claim7.holds Tryd.pinned (.plain (OpenSpec.upto extractFindsSpec)) extractFindsUptoCard

/-- THE SECOND FORM's CARD OF 'custumallaw16.RfclogChecks'. -/
def rfclogChecksUptoCard : Claim7 := { stood := { row := rfclogChecksUptoRow, standIns := [], harness := (true, "6ec0decd8142a358938e7b34bc919a20ad520f1d02926ad82fbd1fc2c6b48423"), looks := false }, kinds := [], alts := [], laidByText := true, laidKinds := [.data, .data, .data, .data], laidTests := true, laidLooks := .later }
def RfclogChecksUptoCardSaid : Prop := Claim7.holds Tryd.pinned (.plain (OpenSpec.upto rfclogChecksSpec)) rfclogChecksUptoCard

/-- THE SECOND FORM's CARD OF 'custumallaw16.RfclogGrows'. -/
def rfclogGrowsUptoCard : Claim7 := { stood := { row := rfclogGrowsUptoRow, standIns := [], harness := (true, "6ec0decd8142a358938e7b34bc919a20ad520f1d02926ad82fbd1fc2c6b48423"), looks := false }, kinds := [], alts := [], laidByText := true, laidKinds := [.data, .data, .data, .data], laidTests := true, laidLooks := .later }
def RfclogGrowsUptoCardSaid : Prop := Claim7.holds Tryd.pinned (.plain (OpenSpec.upto rfclogGrowsSpec)) rfclogGrowsUptoCard

/-- THE SECOND FORM's CARD OF 'custumallaw16.RfclogShows'. -/
def rfclogShowsUptoCard : Claim7 := { stood := { row := rfclogShowsUptoRow, standIns := [], harness := (true, "6ec0decd8142a358938e7b34bc919a20ad520f1d02926ad82fbd1fc2c6b48423"), looks := false }, kinds := [], alts := [], laidByText := true, laidKinds := [.data, .data, .data, .data], laidTests := true, laidLooks := .later }
def RfclogShowsUptoCardSaid : Prop := Claim7.holds Tryd.pinned (.plain (OpenSpec.upto rfclogShowsSpec)) rfclogShowsUptoCard

/-- THE SECOND FORM's CARD OF 'custumallaw16.RfclogBent'. -/
def rfclogBentUptoCard : Claim7 := { stood := { row := rfclogBentUptoRow, standIns := [], harness := (true, "6ec0decd8142a358938e7b34bc919a20ad520f1d02926ad82fbd1fc2c6b48423"), looks := false }, kinds := [], alts := [], laidByText := true, laidKinds := [.data, .data, .data, .data], laidTests := true, laidLooks := .later }
def RfclogBentUptoCardSaid : Prop := Claim7.holds Tryd.pinned (.plain (OpenSpec.upto rfclogBentSpec)) rfclogBentUptoCard
end Rows
end Go.Proofs.YtkembhonfehlbaaDoor
