/-
  DERIVED. GIVEN WITH THE SEED: THE CARDS: each row of YtmkoiddfkanmiaaDoorRows.lean that lists a variable, with what it lists TIED to the program's text (the seventh form; the later family's looks); each row that meets fmt, with fmt's text TOLD by the authors' own Lean function (tested against real Go, not proved from fmt's source: count such statements apart). THE CARD IS WHAT COUNTS. Prove the row's statement (the work); the ties are given (YtmkoiddfkanmiaaDoorTie.lean); close each card by the builder's one call (the guide's Derived/Test/ToyasCard.lean, 'card_holds'). Laid BY PROGRAM, IN A SANDBOX (cutbox-door.mjs). By AI agents, Wed Nov 11 2026. No macro, syntax, notation, axiom, sorry.
-/
import Derived.Test.YtmkoiddfkanmiaaDoorRows
import GoSem.ClaimSeven
namespace Go.Proofs.YtmkoiddfkanmiaaDoor
namespace Rows

/-- THE TIED CARD OF 'custumallaw30.ExtractFinds'. -/
def extractFindsCard : Claim7 := { stood := { row := extractFindsRow, standIns := [], harness := (true, "037a8642d49b9127a9da39bfb039cf23c9b5d3b12bfb5d3b229d15da32d86bb1"), looks := false }, kinds := [], alts := [], laidByText := true, laidKinds := [.data, .data, .data, .data], laidTests := true, laidLooks := .later }
def ExtractFindsCardSaid : Prop := Claim7.holds Tryd.pinned (.plain (OpenSpec.ofChange extractFindsSpec)) extractFindsCard

/-- THE TIED CARD OF 'custumallaw22.TenantNil'. -/
def tenantNilCard : Claim7 := { stood := { row := tenantNilRow, standIns := [], harness := (true, "037a8642d49b9127a9da39bfb039cf23c9b5d3b12bfb5d3b229d15da32d86bb1"), looks := false }, kinds := [], alts := [], laidByText := true, laidKinds := [.data, .data], laidTests := true, laidLooks := .later }
def TenantNilCardSaid : Prop := Claim7.holds Tryd.pinned (.plain (OpenSpec.ofChange tenantNilSpec)) tenantNilCard

/-- THE TIED CARD OF 'custumallaw22.TenantTurns'. -/
def tenantTurnsCard : Claim7 := { stood := { row := tenantTurnsRow, standIns := [], harness := (true, "037a8642d49b9127a9da39bfb039cf23c9b5d3b12bfb5d3b229d15da32d86bb1"), looks := false }, kinds := [], alts := [], laidByText := true, laidKinds := [.data, .data], laidTests := true, laidLooks := .later }
def TenantTurnsCardSaid : Prop := Claim7.holds Tryd.pinned (.plain (OpenSpec.ofChange tenantTurnsSpec)) tenantTurnsCard

/-- THE TIED CARD OF 'custumallaw22.TenantActs'. -/
def tenantActsCard : Claim7 := { stood := { row := tenantActsRow, standIns := [], harness := (true, "037a8642d49b9127a9da39bfb039cf23c9b5d3b12bfb5d3b229d15da32d86bb1"), looks := false }, kinds := [], alts := [], laidByText := true, laidKinds := [.data, .data], laidTests := true, laidLooks := .later }
def TenantActsCardSaid : Prop := Claim7.holds Tryd.pinned (.plain (OpenSpec.ofChange tenantActsSpec)) tenantActsCard

/-- THE SECOND FORM's CARD OF 'custumallaw30.ExtractFinds'. -/
def extractFindsUptoCard : Claim7 := { stood := { row := extractFindsUptoRow, standIns := [], harness := (true, "037a8642d49b9127a9da39bfb039cf23c9b5d3b12bfb5d3b229d15da32d86bb1"), looks := false }, kinds := [], alts := [], laidByText := true, laidKinds := [.data, .data, .data, .data], laidTests := true, laidLooks := .later }
def ExtractFindsUptoCardSaid : Prop := Claim7.holds Tryd.pinned (.plain (OpenSpec.upto extractFindsSpec)) extractFindsUptoCard

/-- THE SECOND FORM's CARD OF 'custumallaw22.TenantNil'. -/
def tenantNilUptoCard : Claim7 := { stood := { row := tenantNilUptoRow, standIns := [], harness := (true, "037a8642d49b9127a9da39bfb039cf23c9b5d3b12bfb5d3b229d15da32d86bb1"), looks := false }, kinds := [], alts := [], laidByText := true, laidKinds := [.data, .data], laidTests := true, laidLooks := .later }
def TenantNilUptoCardSaid : Prop := Claim7.holds Tryd.pinned (.plain (OpenSpec.upto tenantNilSpec)) tenantNilUptoCard

/-- THE SECOND FORM's CARD OF 'custumallaw22.TenantTurns'. -/
def tenantTurnsUptoCard : Claim7 := { stood := { row := tenantTurnsUptoRow, standIns := [], harness := (true, "037a8642d49b9127a9da39bfb039cf23c9b5d3b12bfb5d3b229d15da32d86bb1"), looks := false }, kinds := [], alts := [], laidByText := true, laidKinds := [.data, .data], laidTests := true, laidLooks := .later }
def TenantTurnsUptoCardSaid : Prop := Claim7.holds Tryd.pinned (.plain (OpenSpec.upto tenantTurnsSpec)) tenantTurnsUptoCard

/-- THE SECOND FORM's CARD OF 'custumallaw22.TenantActs'. -/
def tenantActsUptoCard : Claim7 := { stood := { row := tenantActsUptoRow, standIns := [], harness := (true, "037a8642d49b9127a9da39bfb039cf23c9b5d3b12bfb5d3b229d15da32d86bb1"), looks := false }, kinds := [], alts := [], laidByText := true, laidKinds := [.data, .data], laidTests := true, laidLooks := .later }
def TenantActsUptoCardSaid : Prop := Claim7.holds Tryd.pinned (.plain (OpenSpec.upto tenantActsSpec)) tenantActsUptoCard
end Rows
end Go.Proofs.YtmkoiddfkanmiaaDoor
