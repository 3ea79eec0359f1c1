/- Walks of sha2's small functions: rotate, turn, small, big. -/
import Derived.Test.YtmkoiddfkanmiaaChecked
import Derived.Test.YtmkoiddfkanmiaaBits
import Derived.WalkSpells
import Derived.WalkLawsBesides
import Derived.Deep.QuietTactic
import Derived.BigQuiet
namespace Go.Proofs.Ytmkoiddfkanmiaa
open Go.RowKit Bits
namespace Sha
theorem rotArg (m : Nat) (h0 : 0 < m) (h1 : m < 32) : bits .and .u64 (IntKind.u64.wrap (-(m : Int))) 31 = ((32 - m : Nat) : Int) := by
  have e : IntKind.u64.wrap (-(m : Int)) = ((18446744073709551616 - m : Nat) : Int) := by rw [IntKind.wrap_u64]; omega
  rw [e]
  have h := u64_and_nat (18446744073709551616 - m) 31 (by omega) (by omega)
  rw [show ((31 : Nat) : Int) = 31 from rfl] at h
  rw [h, show (31 : Nat) = 2 ^ 5 - 1 from rfl, Nat.and_two_pow_sub_one_eq_mod]
  omega
end Sha
end Go.Proofs.Ytmkoiddfkanmiaa
