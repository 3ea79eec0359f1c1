/- The walk of beats: the schedule at work, whatever the input. -/
import Derived.Test.YtmkoiddfkanmiaaDoorCadG
namespace Go.Proofs.YtmkoiddfkanmiaaDoor
open Go.RowKit Bits Mem Sha
namespace Cad
end Cad
end Go.Proofs.YtmkoiddfkanmiaaDoor
