/- The reference's arithmetic on int: its words are those of BitVec 32. Its turn. -/
import Derived.Test.YtmonkggoilhngaaGreatDoorGShaA
import Derived.Test.YtmonkggoilhngaaGreatDoorBits
import Derived.Test.YtmonkggoilhngaaGreatDoorRegion
import Derived.Test.YtmonkggoilhngaaGreatDoorChecked
import Derived.WalkSpells
import Derived.WalkLawsBesides
import Derived.Lib.Hide
namespace Go.Proofs.YtmonkggoilhngaaGreatDoor
open Go.RowKit Bits
namespace Ref
theorem wrap64_nat (a : Nat) (h : a < 9223372036854775808) : IntKind.i64.wrap (a : Int) = (a : Int) := IntWalk.i64_in _ (by omega)
theorem ofInt64 (a : Nat) (h : a < 18446744073709551616) : (BitVec.ofInt 64 (a : Int)).toNat = a := by
  rw [BitVec.ofInt_natCast, BitVec.toNat_ofNat]; exact Nat.mod_eq_of_lt (by omega)
theorem i64_or (a b : Nat) (ha : a < 9223372036854775808) (hb : b < 9223372036854775808) : bits .or .i64 (a : Int) (b : Int) = ((a ||| b : Nat) : Int) := by
  show IntKind.i64.wrap ((BitVec.ofInt 64 (a : Int) ||| BitVec.ofInt 64 (b : Int)).toNat : Int) = _
  rw [BitVec.toNat_or, ofInt64 a (by omega), ofInt64 b (by omega)]
  exact wrap64_nat _ (Nat.or_lt_two_pow (n := 63) (by omega) (by omega))
theorem i64_and (a b : Nat) (ha : a < 9223372036854775808) (hb : b < 9223372036854775808) : bits .and .i64 (a : Int) (b : Int) = ((a &&& b : Nat) : Int) := by
  show IntKind.i64.wrap ((BitVec.ofInt 64 (a : Int) &&& BitVec.ofInt 64 (b : Int)).toNat : Int) = _
  rw [BitVec.toNat_and, ofInt64 a (by omega), ofInt64 b (by omega)]
  exact wrap64_nat _ (Nat.lt_of_le_of_lt Nat.and_le_left ha)
theorem i64_xor (a b : Nat) (ha : a < 9223372036854775808) (hb : b < 9223372036854775808) : bits .xor .i64 (a : Int) (b : Int) = ((a ^^^ b : Nat) : Int) := by
  show IntKind.i64.wrap ((BitVec.ofInt 64 (a : Int) ^^^ BitVec.ofInt 64 (b : Int)).toNat : Int) = _
  rw [BitVec.toNat_xor, ofInt64 a (by omega), ofInt64 b (by omega)]
  exact wrap64_nat _ (Nat.xor_lt_two_pow (n := 63) (by omega) (by omega))
@[go_sem] theorem n_and (a b : BitVec 32) : bits .and .i64 (n32 a) (n32 b) = n32 (a &&& b) := by
  have h1 := a.isLt; have h2 := b.isLt
  unfold n32; rw [i64_and _ _ (by omega) (by omega), BitVec.toNat_and]
@[go_sem] theorem n_xor (a b : BitVec 32) : bits .xor .i64 (n32 a) (n32 b) = n32 (a ^^^ b) := by
  have h1 := a.isLt; have h2 := b.isLt
  unfold n32; rw [i64_xor _ _ (by omega) (by omega), BitVec.toNat_xor]
@[go_sem] theorem n_not (a : BitVec 32) : bits .xor .i64 (4294967295 : Int) (n32 a) = n32 (~~~a) := by
  have h : (4294967295 : Int) = n32 (BitVec.allOnes 32) := by decide
  rw [h, n_xor, BitVec.allOnes_xor]
theorem mask (s : Nat) (h : s < 9223372036854775808) : bits .and .i64 (s : Int) (4294967295 : Int) = ((s % 4294967296 : Nat) : Int) := by
  have := i64_and s 4294967295 h (by omega)
  rw [show ((4294967295 : Nat) : Int) = (4294967295 : Int) from rfl] at this
  rw [this, show (4294967295 : Nat) = 2 ^ 32 - 1 from rfl, Nat.and_two_pow_sub_one_eq_mod]
theorem mask_n (x : BitVec 32) (s : Nat) (h : s < 9223372036854775808) (hx : x = BitVec.ofNat 32 s) : bits .and .i64 (s : Int) (4294967295 : Int) = n32 x := by
  rw [mask s h, hx]; unfold n32; rw [BitVec.toNat_ofNat]
@[go_sem] theorem shr3 (a : BitVec 32) : n32 a / (8 : Int) = n32 (a >>> 3) := u32_shr a 3
@[go_sem] theorem shr10 (a : BitVec 32) : n32 a / (1024 : Int) = n32 (a >>> 10) := u32_shr a 10
theorem turn_word (x : BitVec 32) (m : Nat) (h0 : 0 < m) (h1 : m < 32) : IntKind.i64.wrap (n32 x * (2 : Int) ^ (32 - m)) = n32 x * (2 : Int) ^ (32 - m) ∧
    bits .and .i64 (bits .or .i64 (n32 (x >>> m)) (n32 x * (2 : Int) ^ (32 - m))) (4294967295 : Int) = n32 (x.rotateRight m) := by
  have hx := x.isLt
  have e : n32 x * (2 : Int) ^ (32 - m) = ((x.toNat * 2 ^ (32 - m) : Nat) : Int) := by unfold n32; simp
  have hb : x.toNat * 2 ^ (32 - m) < 9223372036854775808 := by
    have h2 : 2 ^ (32 - m) ≤ 2 ^ 31 := Nat.pow_le_pow_right (by omega) (by omega)
    calc x.toNat * 2 ^ (32 - m) ≤ 4294967295 * 2 ^ 31 := Nat.mul_le_mul (by omega) h2
      _ < 9223372036854775808 := by decide
  have ha : (x >>> m).toNat < 4294967296 := (x >>> m).isLt
  refine ⟨by rw [e]; exact wrap64_nat _ hb, ?_⟩
  rw [e]
  show bits .and .i64 (bits .or .i64 ((x >>> m).toNat : Int) _) _ = _
  rw [i64_or _ _ (by omega) hb]
  refine mask_n _ _ (Nat.or_lt_two_pow (n := 63) (by omega) (by omega)) ?_
  apply BitVec.eq_of_toNat_eq
  rw [← rotRight x m h1, BitVec.toNat_or, BitVec.toNat_ofNat, Nat.or_mod_two_pow, BitVec.toNat_shiftLeft, Nat.shiftLeft_eq, Nat.or_comm]
  congr 1
  exact (Nat.mod_eq_of_lt ha).symm
end Ref
end Go.Proofs.YtmonkggoilhngaaGreatDoor
