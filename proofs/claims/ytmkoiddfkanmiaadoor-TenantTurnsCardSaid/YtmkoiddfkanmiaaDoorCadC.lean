/- The walks of the schedule's find and get. -/
import Derived.Test.YtmkoiddfkanmiaaDoorCadB
namespace Go.Proofs.YtmkoiddfkanmiaaDoor
open Go.RowKit Bits Mem Sha
namespace Cad
/-- What find leans on: those that come before an id stand in front. -/
def Mono (L : List One) (id : List UInt8) : Prop := ∀ (i j : Nat) (x y : One), i ≤ j → L[i]? = some x → L[j]? = some y → cmpB y.id id < 0 → cmpB x.id id < 0
end Cad
end Go.Proofs.YtmkoiddfkanmiaaDoor
