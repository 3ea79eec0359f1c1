/-
  DERIVED. GIVEN WITH THE SEED: THE CARDS: each row of YtmcjjionfmdioaaDoorRows.lean that lists a variable, with what it lists TIED to the program's text (the seventh form; the later family's looks); each row that meets fmt, with fmt's text TOLD by the authors' own Lean function (tested against real Go, not proved from fmt's source: count such statements apart). THE CARD IS WHAT COUNTS. Prove the row's statement (the work); the ties are given (YtmcjjionfmdioaaDoorTie.lean); close each card by the builder's one call (the guide's Derived/Test/ToyasCard.lean, 'card_holds'). Laid BY PROGRAM, IN A SANDBOX (cutbox-door.mjs). By AI agents, Wed Nov 11 2026. No macro, syntax, notation, axiom, sorry.
-/
import Derived.Test.YtmcjjionfmdioaaDoorRows
import GoSem.ClaimSeven
namespace Go.Proofs.YtmcjjionfmdioaaDoor
namespace Rows

/-- THE TIED CARD OF 'custumallaw01.Sha2Sums'. -/
def sha2SumsCard : Claim7 := { stood := { row := sha2SumsRow, standIns := [], harness := (true, "c2a61370aa7928790f6204be04cebd26e2ca7e6a7642c116eca10b839e43a0b6"), looks := false }, kinds := [], alts := [], laidByText := true, laidKinds := [.data, .data, .data, .data], laidTests := true, laidLooks := .later }
def Sha2SumsCardSaid : Prop := Claim7.holds Tryd.pinned (.plain (OpenSpec.ofChange sha2SumsSpec)) sha2SumsCard

/-- THE TIED CARD OF 'custumallaw01.Sha2Sizes'. -/
def sha2SizesCard : Claim7 := { stood := { row := sha2SizesRow, standIns := [], harness := (true, "c2a61370aa7928790f6204be04cebd26e2ca7e6a7642c116eca10b839e43a0b6"), looks := false }, kinds := [], alts := [], laidByText := true, laidKinds := [.data, .data, .data, .data], laidTests := true, laidLooks := .later }
def Sha2SizesCardSaid : Prop := Claim7.holds Tryd.pinned (.plain (OpenSpec.ofChange sha2SizesSpec)) sha2SizesCard

/-- THE TIED CARD OF 'custumallaw01.Sha2Roots'. -/
def sha2RootsCard : Claim7 := { stood := { row := sha2RootsRow, standIns := [], harness := (true, "c2a61370aa7928790f6204be04cebd26e2ca7e6a7642c116eca10b839e43a0b6"), looks := false }, kinds := [], alts := [], laidByText := true, laidKinds := [.data, .data, .data, .data], laidTests := true, laidLooks := .later }
def Sha2RootsCardSaid : Prop := Claim7.holds Tryd.pinned (.plain (OpenSpec.ofChange sha2RootsSpec)) sha2RootsCard

/-- THE TIED CARD OF 'custumallaw18.ChainMakes'. -/
def chainMakesCard : Claim7 := { stood := { row := chainMakesRow, standIns := [], harness := (true, "c2a61370aa7928790f6204be04cebd26e2ca7e6a7642c116eca10b839e43a0b6"), looks := false }, kinds := [], alts := [], laidByText := true, laidKinds := [.data, .data, .data, .data], laidTests := true, laidLooks := .later }
def ChainMakesCardSaid : Prop := Claim7.holds Tryd.pinned (.plain (OpenSpec.ofChange chainMakesSpec)) chainMakesCard

/-- THE TIED CARD OF 'custumallaw18.ChainOne'. -/
def chainOneCard : Claim7 := { stood := { row := chainOneRow, standIns := [], harness := (true, "c2a61370aa7928790f6204be04cebd26e2ca7e6a7642c116eca10b839e43a0b6"), looks := false }, kinds := [], alts := [], laidByText := true, laidKinds := [.data, .data, .data, .data], laidTests := true, laidLooks := .later }
def ChainOneCardSaid : Prop := Claim7.holds Tryd.pinned (.plain (OpenSpec.ofChange chainOneSpec)) chainOneCard

/-- THE TIED CARD OF 'custumallaw01.Sha2Goes'. -/
def sha2GoesCard : Claim7 := { stood := { row := sha2GoesRow, standIns := [], harness := (true, "c2a61370aa7928790f6204be04cebd26e2ca7e6a7642c116eca10b839e43a0b6"), looks := false }, kinds := [], alts := [], laidByText := true, laidKinds := [.data, .data, .data, .data], laidTests := true, laidLooks := .later }
def Sha2GoesCardSaid : Prop := Claim7.holds Tryd.pinned (.plain (OpenSpec.ofChange sha2GoesSpec)) sha2GoesCard

/-- THE TIED CARD OF 'custumallaw01.Sha2Forks'. -/
def sha2ForksCard : Claim7 := { stood := { row := sha2ForksRow, standIns := [], harness := (true, "c2a61370aa7928790f6204be04cebd26e2ca7e6a7642c116eca10b839e43a0b6"), looks := false }, kinds := [], alts := [], laidByText := true, laidKinds := [.data, .data], laidTests := true, laidLooks := .later }
def Sha2ForksCardSaid : Prop := Claim7.holds Tryd.pinned (.plain (OpenSpec.ofChange sha2ForksSpec)) sha2ForksCard

/-- THE TIED CARD OF 'custumallaw03.HmacOf'. -/
def hmacOfCard : Claim7 := { stood := { row := hmacOfRow, standIns := [], harness := (true, "c2a61370aa7928790f6204be04cebd26e2ca7e6a7642c116eca10b839e43a0b6"), looks := false }, kinds := [], alts := [], laidByText := true, laidKinds := [.data, .data, .data, .data], laidTests := true, laidLooks := .later }
def HmacOfCardSaid : Prop := Claim7.holds Tryd.pinned (.plain (OpenSpec.ofChange hmacOfSpec)) hmacOfCard

/-- THE TIED CARD OF 'custumallaw03.HmacBlocks'. -/
def hmacBlocksCard : Claim7 := { stood := { row := hmacBlocksRow, standIns := [], harness := (true, "c2a61370aa7928790f6204be04cebd26e2ca7e6a7642c116eca10b839e43a0b6"), looks := false }, kinds := [], alts := [], laidByText := true, laidKinds := [.data, .data, .data, .data], laidTests := true, laidLooks := .later }
def HmacBlocksCardSaid : Prop := Claim7.holds Tryd.pinned (.plain (OpenSpec.ofChange hmacBlocksSpec)) hmacBlocksCard

/-- THE TIED CARD OF 'custumallaw18.ChainChecks'. -/
def chainChecksCard : Claim7 := { stood := { row := chainChecksRow, standIns := [], harness := (true, "c2a61370aa7928790f6204be04cebd26e2ca7e6a7642c116eca10b839e43a0b6"), looks := false }, kinds := [], alts := [], laidByText := true, laidKinds := [.data, .data, .data, .data], laidTests := true, laidLooks := .later }
def ChainChecksCardSaid : Prop := Claim7.holds Tryd.pinned (.plain (OpenSpec.ofChange chainChecksSpec)) chainChecksCard

/-- THE TIED CARD OF 'custumallaw03.HmacKeys'. -/
def hmacKeysCard : Claim7 := { stood := { row := hmacKeysRow, standIns := [], harness := (true, "c2a61370aa7928790f6204be04cebd26e2ca7e6a7642c116eca10b839e43a0b6"), looks := false }, kinds := [], alts := [], laidByText := true, laidKinds := [.data, .data, .data, .data], laidTests := true, laidLooks := .later }
def HmacKeysCardSaid : Prop := Claim7.holds Tryd.pinned (.plain (OpenSpec.ofChange hmacKeysSpec)) hmacKeysCard

/-- THE TIED CARD OF 'custumallaw03.HmacSames'. -/
def hmacSamesCard : Claim7 := { stood := { row := hmacSamesRow, standIns := [], harness := (true, "c2a61370aa7928790f6204be04cebd26e2ca7e6a7642c116eca10b839e43a0b6"), looks := false }, kinds := [], alts := [], laidByText := true, laidKinds := [.data, .data], laidTests := true, laidLooks := .later }
def HmacSamesCardSaid : Prop := Claim7.holds Tryd.pinned (.plain (OpenSpec.ofChange hmacSamesSpec)) hmacSamesCard

/-- THE SECOND FORM's CARD OF 'custumallaw01.Sha2Sums'. -/
def sha2SumsUptoCard : Claim7 := { stood := { row := sha2SumsUptoRow, standIns := [], harness := (true, "c2a61370aa7928790f6204be04cebd26e2ca7e6a7642c116eca10b839e43a0b6"), looks := false }, kinds := [], alts := [], laidByText := true, laidKinds := [.data, .data, .data, .data], laidTests := true, laidLooks := .later }
def Sha2SumsUptoCardSaid : Prop := Claim7.holds Tryd.pinned (.plain (OpenSpec.upto sha2SumsSpec)) sha2SumsUptoCard

/-- THE SECOND FORM's CARD OF 'custumallaw01.Sha2Sizes'. -/
def sha2SizesUptoCard : Claim7 := { stood := { row := sha2SizesUptoRow, standIns := [], harness := (true, "c2a61370aa7928790f6204be04cebd26e2ca7e6a7642c116eca10b839e43a0b6"), looks := false }, kinds := [], alts := [], laidByText := true, laidKinds := [.data, .data, .data, .data], laidTests := true, laidLooks := .later }
def Sha2SizesUptoCardSaid : Prop := Claim7.holds Tryd.pinned (.plain (OpenSpec.upto sha2SizesSpec)) sha2SizesUptoCard

/-- THE SECOND FORM's CARD OF 'custumallaw01.Sha2Roots'. -/
def sha2RootsUptoCard : Claim7 := { stood := { row := sha2RootsUptoRow, standIns := [], harness := (true, "c2a61370aa7928790f6204be04cebd26e2ca7e6a7642c116eca10b839e43a0b6"), looks := false }, kinds := [], alts := [], laidByText := true, laidKinds := [.data, .data, .data, .data], laidTests := true, laidLooks := .later }
def Sha2RootsUptoCardSaid : Prop := Claim7.holds Tryd.pinned (.plain (OpenSpec.upto sha2RootsSpec)) sha2RootsUptoCard

/-- THE SECOND FORM's CARD OF 'custumallaw18.ChainMakes'. -/
def chainMakesUptoCard : Claim7 := { stood := { row := chainMakesUptoRow, standIns := [], harness := (true, "c2a61370aa7928790f6204be04cebd26e2ca7e6a7642c116eca10b839e43a0b6"), looks := false }, kinds := [], alts := [], laidByText := true, laidKinds := [.data, .data, .data, .data], laidTests := true, laidLooks := .later }
def ChainMakesUptoCardSaid : Prop := Claim7.holds Tryd.pinned (.plain (OpenSpec.upto chainMakesSpec)) chainMakesUptoCard

/-- THE SECOND FORM's CARD OF 'custumallaw18.ChainOne'. -/
def chainOneUptoCard : Claim7 := { stood := { row := chainOneUptoRow, standIns := [], harness := (true, "c2a61370aa7928790f6204be04cebd26e2ca7e6a7642c116eca10b839e43a0b6"), looks := false }, kinds := [], alts := [], laidByText := true, laidKinds := [.data, .data, .data, .data], laidTests := true, laidLooks := .later }
def ChainOneUptoCardSaid : Prop := Claim7.holds Tryd.pinned (.plain (OpenSpec.upto chainOneSpec)) chainOneUptoCard

/-- THE SECOND FORM's CARD OF 'custumallaw01.Sha2Goes'. -/
def sha2GoesUptoCard : Claim7 := { stood := { row := sha2GoesUptoRow, standIns := [], harness := (true, "c2a61370aa7928790f6204be04cebd26e2ca7e6a7642c116eca10b839e43a0b6"), looks := false }, kinds := [], alts := [], laidByText := true, laidKinds := [.data, .data, .data, .data], laidTests := true, laidLooks := .later }
def Sha2GoesUptoCardSaid : Prop := Claim7.holds Tryd.pinned (.plain (OpenSpec.upto sha2GoesSpec)) sha2GoesUptoCard

/-- THE SECOND FORM's CARD OF 'custumallaw01.Sha2Forks'. -/
def sha2ForksUptoCard : Claim7 := { stood := { row := sha2ForksUptoRow, standIns := [], harness := (true, "c2a61370aa7928790f6204be04cebd26e2ca7e6a7642c116eca10b839e43a0b6"), looks := false }, kinds := [], alts := [], laidByText := true, laidKinds := [.data, .data], laidTests := true, laidLooks := .later }
def Sha2ForksUptoCardSaid : Prop := Claim7.holds Tryd.pinned (.plain (OpenSpec.upto sha2ForksSpec)) sha2ForksUptoCard

/-- THE SECOND FORM's CARD OF 'custumallaw03.HmacOf'. -/
def hmacOfUptoCard : Claim7 := { stood := { row := hmacOfUptoRow, standIns := [], harness := (true, "c2a61370aa7928790f6204be04cebd26e2ca7e6a7642c116eca10b839e43a0b6"), looks := false }, kinds := [], alts := [], laidByText := true, laidKinds := [.data, .data, .data, .data], laidTests := true, laidLooks := .later }
def HmacOfUptoCardSaid : Prop := Claim7.holds Tryd.pinned (.plain (OpenSpec.upto hmacOfSpec)) hmacOfUptoCard

/-- THE SECOND FORM's CARD OF 'custumallaw03.HmacBlocks'. -/
def hmacBlocksUptoCard : Claim7 := { stood := { row := hmacBlocksUptoRow, standIns := [], harness := (true, "c2a61370aa7928790f6204be04cebd26e2ca7e6a7642c116eca10b839e43a0b6"), looks := false }, kinds := [], alts := [], laidByText := true, laidKinds := [.data, .data, .data, .data], laidTests := true, laidLooks := .later }
def HmacBlocksUptoCardSaid : Prop := Claim7.holds Tryd.pinned (.plain (OpenSpec.upto hmacBlocksSpec)) hmacBlocksUptoCard

/-- THE SECOND FORM's CARD OF 'custumallaw18.ChainChecks'. -/
def chainChecksUptoCard : Claim7 := { stood := { row := chainChecksUptoRow, standIns := [], harness := (true, "c2a61370aa7928790f6204be04cebd26e2ca7e6a7642c116eca10b839e43a0b6"), looks := false }, kinds := [], alts := [], laidByText := true, laidKinds := [.data, .data, .data, .data], laidTests := true, laidLooks := .later }
def ChainChecksUptoCardSaid : Prop := Claim7.holds Tryd.pinned (.plain (OpenSpec.upto chainChecksSpec)) chainChecksUptoCard

/-- THE SECOND FORM's CARD OF 'custumallaw03.HmacKeys'. -/
def hmacKeysUptoCard : Claim7 := { stood := { row := hmacKeysUptoRow, standIns := [], harness := (true, "c2a61370aa7928790f6204be04cebd26e2ca7e6a7642c116eca10b839e43a0b6"), looks := false }, kinds := [], alts := [], laidByText := true, laidKinds := [.data, .data, .data, .data], laidTests := true, laidLooks := .later }
def HmacKeysUptoCardSaid : Prop := Claim7.holds Tryd.pinned (.plain (OpenSpec.upto hmacKeysSpec)) hmacKeysUptoCard

/-- THE SECOND FORM's CARD OF 'custumallaw03.HmacSames'. -/
def hmacSamesUptoCard : Claim7 := { stood := { row := hmacSamesUptoRow, standIns := [], harness := (true, "c2a61370aa7928790f6204be04cebd26e2ca7e6a7642c116eca10b839e43a0b6"), looks := false }, kinds := [], alts := [], laidByText := true, laidKinds := [.data, .data], laidTests := true, laidLooks := .later }
def HmacSamesUptoCardSaid : Prop := Claim7.holds Tryd.pinned (.plain (OpenSpec.upto hmacSamesSpec)) hmacSamesUptoCard
end Rows
end Go.Proofs.YtmcjjionfmdioaaDoor
