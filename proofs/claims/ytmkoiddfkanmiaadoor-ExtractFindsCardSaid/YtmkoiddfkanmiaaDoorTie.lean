/-
  DERIVED. GIVEN WITH THE SEED: THE PROGRAM's TIES (one call each: nine closed facts by the kernel) AND EACH ROW's TIE, after the 31st guide's Derived/Test/Toyas{Tie, Card}.lean. No idea stands in it: it is a product of the set-up. Laid BY PROGRAM, IN A SANDBOX (cutbox-door.mjs). By AI agents, Wed Nov 11 2026. No macro, syntax, notation, axiom, sorry.
-/
import Derived.Test.YtmkoiddfkanmiaaDoorRows
import Derived.LaidByTextLater
import Derived.SevenTiedAt
import Derived.LaidSub
import Derived.LaidOnce
namespace Go.Proofs.YtmkoiddfkanmiaaDoor
open Go
set_option maxRecDepth 100000
theorem seatTie1 : Tryd.prog.laidByTextLater [("custumal/custumalref01.K", Rows.laid_custumal_custumalref01_K), ("custumal/custumalref01.H", Rows.laid_custumal_custumalref01_H), ("custumal/sha2.start", Rows.laid_custumal_sha2_start), ("custumal/sha2.rounds", Rows.laid_custumal_sha2_rounds)] [.data, .data, .data, .data] true :=
  Program.laidByTextLater_by_one 29 8 65 (by kernel_rfl) (by kernel_rfl) (by kernel_rfl) (by kernel_rfl) (by kernel_rfl) (by kernel_rfl) (fun _ _ => by kernel_rfl)
theorem noOwnUnsafe : Tryd.pinned.checked.prog.headLifts.contains "ownunsafe" = false := by kernel_rfl
theorem tie : Tryd.prog.laidByTextLater [("custumal/custumalref01.K", Rows.laid_custumal_custumalref01_K), ("custumal/custumalref01.H", Rows.laid_custumal_custumalref01_H), ("custumal/sha2.start", Rows.laid_custumal_sha2_start), ("custumal/sha2.rounds", Rows.laid_custumal_sha2_rounds)] [.data, .data, .data, .data] true :=
  Program.laidByTextLater.sub seatTie1 ["custumal/custumalref01.K", "custumal/custumalref01.H", "custumal/sha2.start", "custumal/sha2.rounds"] (by kernel_rfl) (by kernel_rfl)
theorem extractFinds_row_tie : Rows.extractFindsRow.laidByTextAt .later Tryd.pinned [.data, .data, .data, .data] true :=
  OpenClaim.laidByTextAt_later rfl rfl tie noOwnUnsafe
theorem tie2 : Tryd.prog.laidByTextLater [("custumal/sha2.start", Rows.laid_custumal_sha2_start), ("custumal/sha2.rounds", Rows.laid_custumal_sha2_rounds)] [.data, .data] true :=
  Program.laidByTextLater.sub seatTie1 ["custumal/sha2.start", "custumal/sha2.rounds"] (by kernel_rfl) (by kernel_rfl)
theorem tenantNil_row_tie : Rows.tenantNilRow.laidByTextAt .later Tryd.pinned [.data, .data] true :=
  OpenClaim.laidByTextAt_later rfl rfl tie2 noOwnUnsafe
theorem tenantTurns_row_tie : Rows.tenantTurnsRow.laidByTextAt .later Tryd.pinned [.data, .data] true :=
  OpenClaim.laidByTextAt_later rfl rfl tie2 noOwnUnsafe
theorem tenantActs_row_tie : Rows.tenantActsRow.laidByTextAt .later Tryd.pinned [.data, .data] true :=
  OpenClaim.laidByTextAt_later rfl rfl tie2 noOwnUnsafe
theorem extractFindsUpto_row_tie : Rows.extractFindsUptoRow.laidByTextAt .later Tryd.pinned [.data, .data, .data, .data] true :=
  OpenClaim.laidByTextAt_later rfl rfl tie noOwnUnsafe
theorem tenantNilUpto_row_tie : Rows.tenantNilUptoRow.laidByTextAt .later Tryd.pinned [.data, .data] true :=
  OpenClaim.laidByTextAt_later rfl rfl tie2 noOwnUnsafe
theorem tenantTurnsUpto_row_tie : Rows.tenantTurnsUptoRow.laidByTextAt .later Tryd.pinned [.data, .data] true :=
  OpenClaim.laidByTextAt_later rfl rfl tie2 noOwnUnsafe
theorem tenantActsUpto_row_tie : Rows.tenantActsUptoRow.laidByTextAt .later Tryd.pinned [.data, .data] true :=
  OpenClaim.laidByTextAt_later rfl rfl tie2 noOwnUnsafe
end Go.Proofs.YtmkoiddfkanmiaaDoor
