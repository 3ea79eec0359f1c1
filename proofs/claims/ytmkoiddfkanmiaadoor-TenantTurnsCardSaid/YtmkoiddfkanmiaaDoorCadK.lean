/- The walks of the schedule's Add where it errs. -/
import Derived.Test.YtmkoiddfkanmiaaDoorCadJ
namespace Go.Proofs.YtmkoiddfkanmiaaDoor
open Go.RowKit Bits Mem Sha
namespace Cad
end Cad
end Go.Proofs.YtmkoiddfkanmiaaDoor
