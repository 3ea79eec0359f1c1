/- The reference's arithmetic on int: its words are those of BitVec 32. Its turn. -/
import Derived.Test.YtmonkggoilhngaaGreatDoorGShaA
import Derived.Test.YtmonkggoilhngaaGreatDoorGRegion
import Derived.Test.YtmonkggoilhngaaGreatDoorGShaD
import Derived.Test.YtmonkggoilhngaaGreatDoorGPerm
import Derived.Test.YtmonkggoilhngaaGreatDoorChecked
import Derived.WalkSpells
import Derived.WalkLawsBesides
import Derived.Lib.Hide
namespace Go.Proofs.YtmonkggoilhngaaGreatDoor
open Go.RowKit Bits
namespace Ref
theorem wrap64_nat (a : Nat) (h : a < 9223372036854775808) : IntKind.i64.wrap (a : Int) = (a : Int) := IntWalk.i64_in _ (by omega)
theorem ofInt64 (a : Nat) (h : a < 18446744073709551616) : (BitVec.ofInt 64 (a : Int)).toNat = a := by
  rw [BitVec.ofInt_natCast, BitVec.toNat_ofNat]; exact Nat.mod_eq_of_lt (by omega)
theorem i64_or (a b : Nat) (ha : a < 9223372036854775808) (hb : b < 9223372036854775808) : bits .or .i64 (a : Int) (b : Int) = ((a ||| b : Nat) : Int) := by
  show IntKind.i64.wrap ((BitVec.ofInt 64 (a : Int) ||| BitVec.ofInt 64 (b : Int)).toNat : Int) = _
  rw [BitVec.toNat_or, ofInt64 a (by omega), ofInt64 b (by omega)]
  exact wrap64_nat _ (Nat.or_lt_two_pow (n := 63) (by omega) (by omega))
theorem i64_and (a b : Nat) (ha : a < 9223372036854775808) (hb : b < 9223372036854775808) : bits .and .i64 (a : Int) (b : Int) = ((a &&& b : Nat) : Int) := by
  show IntKind.i64.wrap ((BitVec.ofInt 64 (a : Int) &&& BitVec.ofInt 64 (b : Int)).toNat : Int) = _
  rw [BitVec.toNat_and, ofInt64 a (by omega), ofInt64 b (by omega)]
  exact wrap64_nat _ (Nat.lt_of_le_of_lt Nat.and_le_left ha)
theorem i64_xor (a b : Nat) (ha : a < 9223372036854775808) (hb : b < 9223372036854775808) : bits .xor .i64 (a : Int) (b : Int) = ((a ^^^ b : Nat) : Int) := by
  show IntKind.i64.wrap ((BitVec.ofInt 64 (a : Int) ^^^ BitVec.ofInt 64 (b : Int)).toNat : Int) = _
  rw [BitVec.toNat_xor, ofInt64 a (by omega), ofInt64 b (by omega)]
  exact wrap64_nat _ (Nat.xor_lt_two_pow (n := 63) (by omega) (by omega))
@[go_sem] theorem n_and (a b : BitVec 32) : bits .and .i64 (n32 a) (n32 b) = n32 (a &&& b) := by
  have h1 := a.isLt; have h2 := b.isLt
  unfold n32; rw [i64_and _ _ (by omega) (by omega), BitVec.toNat_and]
@[go_sem] theorem n_xor (a b : BitVec 32) : bits .xor .i64 (n32 a) (n32 b) = n32 (a ^^^ b) := by
  have h1 := a.isLt; have h2 := b.isLt
  unfold n32; rw [i64_xor _ _ (by omega) (by omega), BitVec.toNat_xor]
@[go_sem] theorem n_not (a : BitVec 32) : bits .xor .i64 (4294967295 : Int) (n32 a) = n32 (~~~a) := by
  have h : (4294967295 : Int) = n32 (BitVec.allOnes 32) := by decide
  rw [h, n_xor, BitVec.allOnes_xor]
@[go_sem] theorem shr3 (a : BitVec 32) : n32 a / (8 : Int) = n32 (a >>> 3) := u32_shr a 3
@[go_sem] theorem shr10 (a : BitVec 32) : n32 a / (1024 : Int) = n32 (a >>> 10) := u32_shr a 10
end Ref
end Go.Proofs.YtmonkggoilhngaaGreatDoor
/- Plain laws of the reference's words. -/
namespace Go.Proofs.YtmonkggoilhngaaGreatDoor
open Go.RowKit Bits Mem Sha
namespace Ref
end Ref
end Go.Proofs.YtmonkggoilhngaaGreatDoor
/- The walk of the reference's Sum. -/
namespace Go.Proofs.YtmonkggoilhngaaGreatDoor
open Go.RowKit Bits Mem Sha
namespace Ref
@[go_sem] theorem shr24 (a : BitVec 32) : n32 a / (16777216 : Int) = n32 (a >>> 24) := u32_shr a 24
@[go_sem] theorem shr16 (a : BitVec 32) : n32 a / (65536 : Int) = n32 (a >>> 16) := u32_shr a 16
@[go_sem] theorem shr8 (a : BitVec 32) : n32 a / (256 : Int) = n32 (a >>> 8) := u32_shr a 8
end Ref
end Go.Proofs.YtmonkggoilhngaaGreatDoor
