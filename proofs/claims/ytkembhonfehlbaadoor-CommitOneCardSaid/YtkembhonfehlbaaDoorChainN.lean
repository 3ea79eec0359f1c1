/- The walks of chain.Next and custumallaw18.chains. -/
import Derived.Test.YtkembhonfehlbaaDoorChain
import Derived.Test.YtkembhonfehlbaaDoorPlanB
namespace Go.Proofs.YtkembhonfehlbaaDoor
open Go.RowKit Bits Mem Sha
namespace Ref
def nextLink (id : List UInt8) (n : Int) (root ahead : List UInt8) : List UInt8 := sha (linkText id n root ahead)
theorem nextLink_length (id : List UInt8) (n : Int) (root ahead : List UInt8) : (nextLink id n root ahead).length = 32 := sha_length _
end Ref
end Go.Proofs.YtkembhonfehlbaaDoor
