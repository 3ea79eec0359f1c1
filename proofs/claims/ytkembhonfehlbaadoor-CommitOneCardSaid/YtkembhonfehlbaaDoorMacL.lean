/- The walks of custumallaw03.marks and custumalref03.Of. -/
import Derived.Test.YtkembhonfehlbaaDoorMacO
namespace Go.Proofs.YtkembhonfehlbaaDoor
open Go.RowKit Bits Mem Sha
namespace Ref
def jefe : List UInt8 := [74, 101, 102, 101]
def wants : List UInt8 := [119, 104, 97, 116, 32, 100, 111, 32, 121, 97, 32, 119, 97, 110, 116, 32]
def nothing : List UInt8 := [102, 111, 114, 32, 110, 111, 116, 104, 105, 110, 103, 63]
theorem hmac_jefe : bt (hmac jefe (wants ++ nothing)) 0 = 91 ∧ bt (hmac jefe (wants ++ nothing)) 1 = 220 ∧ bt (hmac jefe (wants ++ nothing)) 31 = 67 := by decide +kernel
theorem Rd_marked (w : World) (l : List UInt8) (n : Nat) (cs : Array Value) (hcs : cs = (bys l).toArray) (hn : l.length = n) (hm : n ≤ maxLen) : Rd (w.alloc (.cells cs 5 (n, n + 1))) 1 (.slice (some ⟨w.heap.size, 0, none⟩) n n) n (bys l) := by
  subst hcs hn
  have h := Ow.lit_marked w (bys l).toArray 5 1 l.length 0 (Nat.zero_le _) hm (by simp [bys])
  have e : (bys l).toArray.size = l.length := by simp [bys]
  rw [e] at h
  exact Rd.of_ow h
theorem lit_jefe : (#[.int .u8 74, .int .u8 101, .int .u8 102, .int .u8 101] : Array Value) = (bys jefe).toArray := rfl
theorem lit_wants : (#[.int .u8 119, .int .u8 104, .int .u8 97, .int .u8 116, .int .u8 32, .int .u8 100, .int .u8 111, .int .u8 32, .int .u8 121, .int .u8 97, .int .u8 32, .int .u8 119, .int .u8 97, .int .u8 110, .int .u8 116, .int .u8 32] : Array Value) = (bys wants).toArray := rfl
theorem lit_nothing : (#[.int .u8 102, .int .u8 111, .int .u8 114, .int .u8 32, .int .u8 110, .int .u8 111, .int .u8 116, .int .u8 104, .int .u8 105, .int .u8 110, .int .u8 103, .int .u8 63] : Array Value) = (bys nothing).toArray := rfl
end Ref
end Go.Proofs.YtkembhonfehlbaaDoor
