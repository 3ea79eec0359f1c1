/- The walks of package chain and of its reference. -/
import Derived.Test.YtkembhonfehlbaaDoorKeys
import Derived.Test.YtkembhonfehlbaaDoorPure
namespace Go.Proofs.YtkembhonfehlbaaDoor
open Go.RowKit Bits Mem Sha
namespace Ref
def two (n : Nat) : List UInt8 := [UInt8.ofNat (n / 256), UInt8.ofNat n]
def linkText (id : List UInt8) (n : Int) (root ahead : List UInt8) : List UInt8 := 3 :: (two id.length ++ id ++ eight n ++ root ++ ahead)
def firstLink (id : List UInt8) : List UInt8 := sha (4 :: id)
theorem linkText_length (id : List UInt8) (n : Int) (root ahead : List UInt8) (hr : root.length = 32) (ha : ahead.length = 32) : (linkText id n root ahead).length = id.length + 75 := by
  simp [linkText, two, eight_length, hr, ha]
end Ref
end Go.Proofs.YtkembhonfehlbaaDoor
