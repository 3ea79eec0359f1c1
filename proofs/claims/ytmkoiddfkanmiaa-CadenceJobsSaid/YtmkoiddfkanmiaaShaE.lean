/- The walks of sha2's Hash: New, Sum. -/
import Derived.Test.YtmkoiddfkanmiaaShaD
namespace Go.Proofs.Ytmkoiddfkanmiaa
open Go.RowKit Bits Mem
namespace Sha
def bysA (l : List UInt8) : Array Value := (bys l).toArray
def zeros32 : List UInt8 := List.replicate 32 0
@[go_sem] theorem u32_shr24 (a : BitVec 32) : n32 a / (16777216 : Int) = n32 (a >>> 24) := u32_shr a 24
@[go_sem] theorem u32_shr16 (a : BitVec 32) : n32 a / (65536 : Int) = n32 (a >>> 16) := u32_shr a 16
@[go_sem] theorem u32_shr8 (a : BitVec 32) : n32 a / (256 : Int) = n32 (a >>> 8) := u32_shr a 8
@[go_sem] theorem u32_by8 (a : BitVec 32) : n32 a % (256 : Int) = ((by8 a).toNat : Int) := by
  unfold n32 by8; rw [UInt8.toNat_ofNat']; omega
@[go_sem] theorem u32_by8' (a : BitVec 32) : IntKind.u8.wrap (n32 a) = ((by8 a).toNat : Int) := by
  rw [IntKind.wrap_u8', u32_by8]
/-- The sum's bytes behind k words. -/
def outk (H : List (BitVec 32)) (k : Nat) : List UInt8 := outb (H.take k) ++ List.replicate (32 - 4 * k) 0
theorem outk_length (H : List (BitVec 32)) (hH : H.length = 8) (k : Nat) (hk : k ≤ 8) : (outk H k).length = 32 := by
  unfold outk; rw [List.length_append, outb_length, List.length_take, List.length_replicate]; omega
theorem outk_zero (H : List (BitVec 32)) : outk H 0 = zeros32 := by simp [outk, outb, zeros32]
theorem outk_full (H : List (BitVec 32)) (hH : H.length = 8) : outk H 8 = outb H := by
  unfold outk; rw [List.take_of_length_le (by omega)]; simp
theorem outk_get (H : List (BitVec 32)) (hH : H.length = 8) (k i : Nat) (hk : k < 8) (hi : i < 4) : (bysA (outk H k))[4 * k + i]? = some (.int .u8 0) := by
  have hl : (outb (H.take k)).length = 4 * k := by rw [outb_length, List.length_take]; omega
  unfold bysA bys outk
  simp only [List.getElem?_toArray, List.getElem?_map]
  rw [List.getElem?_append_right (by omega), hl, List.getElem?_replicate, if_pos (by omega)]
  rfl
theorem outk_set (H : List (BitVec 32)) (hH : H.length = 8) (k : Nat) (hk : k < 8) :
    ((((bysA (outk H k)).setIfInBounds (4 * k) (.int .u8 ((by8 (rd H k >>> 24)).toNat : Int))).setIfInBounds (4 * k + 1) (.int .u8 ((by8 (rd H k >>> 16)).toNat : Int))).setIfInBounds (4 * k + 2) (.int .u8 ((by8 (rd H k >>> 8)).toNat : Int))).setIfInBounds (4 * k + 3) (.int .u8 ((by8 (rd H k)).toNat : Int)) = bysA (outk H (k + 1)) := by
  have hl : (outb (H.take k)).length = 4 * k := by rw [outb_length, List.length_take]; omega
  have ht : H.take (k + 1) = H.take k ++ [rd H k] := by
    rw [List.take_succ_eq_append_getElem (by omega)]; simp [rd, List.getD, hH, hk]
  have e1 : outk H k = outb (H.take k) ++ ([0, 0, 0, 0] ++ List.replicate (32 - 4 * (k + 1)) 0) := by
    unfold outk
    rw [show 32 - 4 * k = 4 + (32 - 4 * (k + 1)) from by omega, ← List.replicate_append_replicate]; rfl
  have e2 : outk H (k + 1) = outb (H.take k) ++ (four (rd H k) ++ List.replicate (32 - 4 * (k + 1)) 0) := by
    unfold outk
    rw [ht, outb_append, List.append_assoc]; simp [outb]
  rw [e1, e2]
  apply Array.ext'
  have hl' : (List.map (fun b : UInt8 => Value.int .u8 (b.toNat : Int)) (outb (H.take k))).length = 4 * k := by rw [List.length_map]; exact hl
  simp only [bysA, bys, List.map_append, Array.toList_setIfInBounds]
  rw [List.set_append_right _ _ (by omega), List.set_append_right _ _ (by omega), List.set_append_right _ _ (by omega), List.set_append_right _ _ (by omega), hl']
  rw [show 4 * k - 4 * k = 0 from by omega, show 4 * k + 1 - 4 * k = 1 from by omega, show 4 * k + 2 - 4 * k = 2 from by omega, show 4 * k + 3 - 4 * k = 3 from by omega]
  rfl
theorem bysA_size (l : List UInt8) : (bysA l).size = l.length := by simp [bysA, bys]
theorem bysA_one (l : List UInt8) : (bysA l).all (·.oneCell') = true := by
  rw [Array.all_eq_true_iff_forall_mem]; intro v hv; exact bys_one l v (by simpa [bysA] using hv)
end Sha
end Go.Proofs.Ytmkoiddfkanmiaa
