/- The walks of the schedule's Add, on an empty schedule, and of Next. -/
import Derived.Test.YtmkoiddfkanmiaaDoorCadE
namespace Go.Proofs.YtmkoiddfkanmiaaDoor
open Go.RowKit Bits Mem Sha
namespace Cad
end Cad
end Go.Proofs.YtmkoiddfkanmiaaDoor
