/- slices.Delete of one element, anywhere in a row of one's own. -/
import Derived.Test.YtmonkggoilhngaaGreatDoorGSlM
namespace Go.Proofs.YtmonkggoilhngaaGreatDoor
open Go.RowKit
namespace Cad
open Mem
end Cad
end Go.Proofs.YtmonkggoilhngaaGreatDoor
