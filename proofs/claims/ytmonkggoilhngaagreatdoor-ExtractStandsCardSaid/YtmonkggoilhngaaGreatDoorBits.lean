/- Plain rules: how the walk's integer terms at 32 bits are written over BitVec 32. No condition. -/
import Derived.WalkKit
namespace Go.Proofs.YtmonkggoilhngaaGreatDoor
namespace Bits

/-- A word as the number that its value holds: a plain name, so that no rule of simp looks behind it. -/
def n32 (a : BitVec 32) : Int := (a.toNat : Int)
theorem n32_bd (a : BitVec 32) : 0 ≤ n32 a ∧ n32 a < 4294967296 := by
  have := a.isLt; unfold n32; omega
theorem n32_inj {a b : BitVec 32} (h : n32 a = n32 b) : a = b := by
  unfold n32 at h; exact BitVec.eq_of_toNat_eq (by omega)
theorem ofInt32 (a : BitVec 32) : BitVec.ofInt 32 (n32 a) = a := by
  unfold n32; rw [BitVec.ofInt_natCast]; simp
theorem wrap32 (a : BitVec 32) : IntKind.u32.wrap (a.toNat : Int) = n32 a := by
  have := a.isLt
  unfold n32
  rw [IntKind.wrap_u32']; omega
@[go_sem] theorem u32_same (a : BitVec 32) : IntKind.u32.wrap (n32 a) = n32 a := wrap32 a
@[go_sem] theorem u32_add (a b : BitVec 32) : IntKind.u32.wrap (n32 a + n32 b) = n32 (a + b) := by
  unfold n32; rw [IntKind.wrap_u32', BitVec.toNat_add]; omega
@[go_sem] theorem u32_add' (a b : BitVec 32) : (n32 a + n32 b) % (4294967296 : Int) = n32 (a + b) := by
  unfold n32; rw [BitVec.toNat_add]; omega
@[go_sem] theorem u32_xor (a b : BitVec 32) : bits .xor .u32 (n32 a) (n32 b) = n32 (a ^^^ b) := by
  show IntKind.u32.wrap ((BitVec.ofInt 32 (n32 a) ^^^ BitVec.ofInt 32 (n32 b)).toNat : Int) = _
  rw [ofInt32, ofInt32, wrap32]
@[go_sem] theorem u32_and (a b : BitVec 32) : bits .and .u32 (n32 a) (n32 b) = n32 (a &&& b) := by
  show IntKind.u32.wrap ((BitVec.ofInt 32 (n32 a) &&& BitVec.ofInt 32 (n32 b)).toNat : Int) = _
  rw [ofInt32, ofInt32, wrap32]
@[go_sem] theorem u32_or (a b : BitVec 32) : bits .or .u32 (n32 a) (n32 b) = n32 (a ||| b) := by
  show IntKind.u32.wrap ((BitVec.ofInt 32 (n32 a) ||| BitVec.ofInt 32 (n32 b)).toNat : Int) = _
  rw [ofInt32, ofInt32, wrap32]
@[go_sem] theorem u32_not (a : BitVec 32) : bits .xor .u32 (4294967295 : Int) (n32 a) = n32 (~~~a) := by
  show IntKind.u32.wrap ((BitVec.ofInt 32 4294967295 ^^^ BitVec.ofInt 32 (n32 a)).toNat : Int) = _
  rw [ofInt32, wrap32]
  have h : BitVec.ofInt 32 4294967295 = BitVec.allOnes 32 := by decide
  rw [h, BitVec.allOnes_xor]
@[go_sem] theorem u32_not' (a : BitVec 32) : bits .xor .u32 (if IntKind.u32.signed = true then -1 else IntKind.u32.max) (n32 a) = n32 (~~~a) := by
  rw [if_neg (by decide), show IntKind.u32.max = (4294967295 : Int) from by decide]; exact u32_not a
@[go_sem] theorem u32_shr (a : BitVec 32) (n : Nat) : n32 a / (2 : Int) ^ n = n32 (a >>> n) := by
  unfold n32; rw [BitVec.toNat_ushiftRight, Nat.shiftRight_eq_div_pow]; simp
@[go_sem] theorem u32_shl (a : BitVec 32) (n : Nat) : n32 a * (2 : Int) ^ n % (4294967296 : Int) = n32 (a <<< n) := by
  unfold n32; rw [BitVec.toNat_shiftLeft, Nat.shiftLeft_eq]; simp
@[go_sem] theorem u32_shl8 (a : BitVec 32) : n32 a * (256 : Int) % (4294967296 : Int) = n32 (a <<< 8) := by
  have h := u32_shl a 8; rw [show ((2 : Int) ^ 8) = 256 from rfl] at h; exact h
@[go_sem] theorem u32_shl8' (a : BitVec 32) : IntKind.u32.wrap (n32 a * (256 : Int)) = n32 (a <<< 8) := by
  rw [IntKind.wrap_u32']; exact u32_shl8 a
@[go_sem] theorem u32_shlw (a : BitVec 32) (n : Nat) : IntKind.u32.wrap (n32 a * (2 : Int) ^ n) = n32 (a <<< n) := by
  rw [IntKind.wrap_u32', u32_shl]
theorem rotRight (x : BitVec 32) (m : Nat) (h : m < 32) : (x <<< (32 - m)) ||| (x >>> m) = x.rotateRight m := by
  rw [BitVec.rotateRight, Nat.mod_eq_of_lt h, BitVec.rotateRightAux, BitVec.or_comm]
end Bits
end Go.Proofs.YtmonkggoilhngaaGreatDoor
