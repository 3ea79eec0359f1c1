/- Walks of sha2's small functions: rotate, turn, small, big. -/
import Derived.Test.YtmkoiddfkanmiaaDoorBits
import Derived.Test.YtmkoiddfkanmiaaDoorChecked
import Derived.WalkSpells
import Derived.WalkLawsBesides
import Derived.Deep.QuietTactic
import Derived.BigQuiet
namespace Go.Proofs.YtmkoiddfkanmiaaDoor
open Go.RowKit Bits
namespace Sha
theorem rotArg (m : Nat) (h0 : 0 < m) (h1 : m < 32) : bits .and .u64 (IntKind.u64.wrap (-(m : Int))) 31 = ((32 - m : Nat) : Int) := by
  have e : IntKind.u64.wrap (-(m : Int)) = ((18446744073709551616 - m : Nat) : Int) := by rw [IntKind.wrap_u64]; omega
  rw [e]
  have h := u64_and_nat (18446744073709551616 - m) 31 (by omega) (by omega)
  rw [show ((31 : Nat) : Int) = 31 from rfl] at h
  rw [h, show (31 : Nat) = 2 ^ 5 - 1 from rfl, Nat.and_two_pow_sub_one_eq_mod]
  omega
set_option maxRecDepth 100000 in
set_option maxHeartbeats 400000 in
theorem rot_any (x : BitVec 32) (m : Nat) (w : World) (h0 : 0 < m) (h1 : m < 32) :
    Calls Tryd.prog 81 #[.int .u32 (n32 x), .int .i64 (-(m : Int))] w fun e w' => e = .returned (.int .u32 (n32 (x.rotateRight m))) ∧ w = w' := by
  have r1 := rotArg m h0 h1
  have r4 : IntKind.u64.wrap (32 - ((32 - m : Nat) : Int)) = (m : Int) := by rw [IntKind.wrap_u64]; omega
  have r5 := Bits.rotRight x m h1
  go_enter Tryd.func81, Tryd.ntmps81
  go_wp2
  go_ret
  exact ⟨rfl, rfl⟩
set_option maxRecDepth 100000 in
set_option maxHeartbeats 400000 in
theorem turn_any (x : BitVec 32) (m : Nat) (w : World) (h0 : 0 < m) (h1 : m < 32) :
    Calls Tryd.prog 78 #[.int .u32 (n32 x), .int .i64 (m : Int)] w fun e w' => e = .returned (.int .u32 (n32 (x.rotateRight m))) ∧ w = w' := by
  go_enter Tryd.func78, Tryd.ntmps78
  go_wp2_with (go_at_call 81; refine (rot_any _ _ _ h0 h1).mono ?_; rintro e w' ⟨rfl, rfl⟩)
  go_ret
  exact ⟨rfl, rfl⟩
end Sha
end Go.Proofs.YtmkoiddfkanmiaaDoor
