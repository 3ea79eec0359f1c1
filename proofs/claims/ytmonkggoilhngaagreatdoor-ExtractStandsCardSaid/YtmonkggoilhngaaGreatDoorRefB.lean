/- The walk of the reference's Sum. -/
import Derived.Test.YtmonkggoilhngaaGreatDoorRefP
import Derived.Test.YtmonkggoilhngaaGreatDoorGPerm
namespace Go.Proofs.YtmonkggoilhngaaGreatDoor
open Go.RowKit Bits Mem Sha
namespace Ref
theorem outb_take_succ (H : List (BitVec 32)) (j : Nat) (h : j < H.length) : outb (H.take (j + 1)) = outb (H.take j) ++ four (rd H j) := by
  rw [List.take_succ_eq_append_getElem h, outb_append]
  congr 1
  simp [outb, rd, List.getD, h]
theorem Rd_lit4 (x : BitVec 32) (w1 : World) : Rd (w1.alloc (.cells #[.int .u8 ((by8 (x >>> 24)).toNat : Int), .int .u8 ((by8 (x >>> 16)).toNat : Int), .int .u8 ((by8 (x >>> 8)).toNat : Int), .int .u8 ((by8 x).toNat : Int)] 5)) 1 (.slice (some ⟨w1.heap.size, 0, none⟩) 4 4) 4 (bys (four x)) :=
  Rd_lit w1 #[.int .u8 ((by8 (x >>> 24)).toNat : Int), .int .u8 ((by8 (x >>> 16)).toNat : Int), .int .u8 ((by8 (x >>> 8)).toNat : Int), .int .u8 ((by8 x).toNat : Int)] 5 1 4 rfl (by decide)
@[go_sem] theorem shr24 (a : BitVec 32) : n32 a / (16777216 : Int) = n32 (a >>> 24) := u32_shr a 24
@[go_sem] theorem shr16 (a : BitVec 32) : n32 a / (65536 : Int) = n32 (a >>> 16) := u32_shr a 16
@[go_sem] theorem shr8 (a : BitVec 32) : n32 a / (256 : Int) = n32 (a >>> 8) := u32_shr a 8
end Ref
end Go.Proofs.YtmonkggoilhngaaGreatDoor
