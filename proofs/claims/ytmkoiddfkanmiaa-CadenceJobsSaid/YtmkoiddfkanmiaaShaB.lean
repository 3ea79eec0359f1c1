/- Walks of sha2.small, big, spread. -/
import Derived.Test.YtmkoiddfkanmiaaShaA
import Derived.Test.YtmkoiddfkanmiaaShaSpec
import Derived.Test.YtmkoiddfkanmiaaRegion
import Derived.Deep.Draws
import Derived.Lib.Hide
import Derived.Deep.LoopGhost
import Derived.Deep.DeepFit
import Derived.KernelRfl
namespace Go.Proofs.Ytmkoiddfkanmiaa
open Go.RowKit Bits
namespace Sha
/-- Words as cells. -/
def cells (A : List (BitVec 32)) : Array Value := (A.map fun x => Value.int .u32 (n32 x)).toArray
theorem cells_get (A : List (BitVec 32)) (j : Nat) (h : j < A.length) : (cells A)[j]? = some (.int .u32 (n32 (rd A j))) := by
  simp [cells, rd, List.getD, h]
theorem cells_size (A : List (BitVec 32)) : (cells A).size = A.length := by simp [cells]
theorem cells_one (A : List (BitVec 32)) : (cells A).all (·.oneCell') = true := by
  rw [Array.all_eq_true_iff_forall_mem]; intro v hv; simp [cells] at hv; obtain ⟨x, _, rfl⟩ := hv; rfl
theorem cells_set (A : List (BitVec 32)) (j : Nat) (x : BitVec 32) : (cells A).setIfInBounds j (.int .u32 (n32 x)) = cells (A.set j x) := by
  simp [cells, List.map_set]
@[go_sem] theorem by32_wrap (b : UInt8) : IntKind.u32.wrap (b.toNat : Int) = n32 (by32 b) := by
  have := b.toNat_lt
  rw [IntKind.wrap_u32']; unfold n32 by32; rw [BitVec.toNat_ofNat]; omega
@[go_sem] theorem by32_mod (b : UInt8) : (b.toNat : Int) % 4294967296 = n32 (by32 b) := by
  have := by32_wrap b; rw [IntKind.wrap_u32'] at this; exact this
def zeros64 : List (BitVec 32) := List.replicate 64 0
theorem cells_zero : cells zeros64 = Array.replicate 64 (.int .u32 0) := by kernel_rfl
end Sha
end Go.Proofs.Ytmkoiddfkanmiaa
