/- Marks by a key, as plain functions on lists. -/
import Derived.Test.YtmcjjionfmdioaaDoorShaSpec
namespace Go.Proofs.YtmcjjionfmdioaaDoor
namespace Sha
def macKey (k : List UInt8) : List UInt8 := if 64 < k.length then sha k else k
def fill (k : List UInt8) : List UInt8 := k ++ List.replicate (64 - k.length) 0
def padk (k : List UInt8) (b : UInt8) : List UInt8 := (fill k).map (· ^^^ b)
def hmac (k m : List UInt8) : List UInt8 := sha (padk (macKey k) 0x5C ++ sha (padk (macKey k) 0x36 ++ m))
theorem macKey_length (k : List UInt8) : (macKey k).length ≤ 64 := by
  unfold macKey; split
  · rw [sha_length]; decide
  · omega
theorem fill_length (k : List UInt8) (h : k.length ≤ 64) : (fill k).length = 64 := by
  unfold fill; rw [List.length_append, List.length_replicate]; omega
theorem padk_length (k : List UInt8) (b : UInt8) (h : k.length ≤ 64) : (padk k b).length = 64 := by
  unfold padk; rw [List.length_map, fill_length k h]
theorem hmac_length (k m : List UInt8) : (hmac k m).length = 32 := sha_length _
/-- The row of a key that is being put together, behind i bytes. -/
def padi (k : List UInt8) (b : UInt8) (i : Nat) : List UInt8 := ((fill k).take i).map (· ^^^ b) ++ (fill k).drop i
theorem padi_zero (k : List UInt8) (b : UInt8) : padi k b 0 = fill k := by simp [padi]
theorem padi_full (k : List UInt8) (b : UInt8) (h : k.length ≤ 64) : padi k b 64 = padk k b := by
  unfold padi padk
  rw [List.take_of_length_le (by rw [fill_length k h]; exact Nat.le_refl _), List.drop_of_length_le (by rw [fill_length k h]; exact Nat.le_refl _), List.append_nil]
theorem padi_length (k : List UInt8) (b : UInt8) (i : Nat) (h : k.length ≤ 64) : (padi k b i).length = 64 := by
  have := fill_length k h
  unfold padi; rw [List.length_append, List.length_map, List.length_take, List.length_drop]; omega
theorem padi_at (k : List UInt8) (b : UInt8) (i : Nat) (h : k.length ≤ 64) (hi : i < 64) : bt (padi k b i) i = bt (fill k) i := by
  have := fill_length k h
  unfold padi bt
  simp only [List.getD_eq_getElem?_getD]
  rw [List.getElem?_append_right (by rw [List.length_map, List.length_take]; omega), List.length_map, List.length_take, List.getElem?_drop]
  congr 2
  omega
theorem padi_succ (k : List UInt8) (b : UInt8) (i : Nat) (h : k.length ≤ 64) (hi : i < 64) : (padi k b i).set i (bt (fill k) i ^^^ b) = padi k b (i + 1) := by
  have hl := fill_length k h
  unfold padi
  have h1 : ((fill k).take i).length = i := by rw [List.length_take]; omega
  rw [List.set_append_right _ _ (by rw [List.length_map, h1]; exact Nat.le_refl _), List.length_map, h1, Nat.sub_self, List.take_succ_eq_append_getElem (by omega), List.map_append, List.append_assoc]
  congr 1
  rw [show (fill k).drop i = (fill k)[i] :: (fill k).drop (i + 1) from List.drop_eq_getElem_cons (by omega), List.set_cons_zero]
  have hb : bt (fill k) i = (fill k)[i] := by simp [bt, List.getD, hl, hi]
  rw [hb]; rfl
end Sha
end Go.Proofs.YtmcjjionfmdioaaDoor
