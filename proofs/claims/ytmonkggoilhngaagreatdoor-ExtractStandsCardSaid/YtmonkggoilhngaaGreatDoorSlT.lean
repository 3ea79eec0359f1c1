/- slices.Insert of one tenant, anywhere in a row of one's own. -/
import Derived.Test.YtmonkggoilhngaaGreatDoorGSlM
namespace Go.Proofs.YtmonkggoilhngaaGreatDoor
open Go.RowKit
namespace Ten
open Mem
end Ten
end Go.Proofs.YtmonkggoilhngaaGreatDoor
