/- slices.Delete of one element, anywhere in a row of one's own. -/
import Derived.Test.YtmkoiddfkanmiaaDoorSlI
namespace Go.Proofs.YtmkoiddfkanmiaaDoor
open Go.RowKit
namespace Cad
open Mem
end Cad
end Go.Proofs.YtmkoiddfkanmiaaDoor
