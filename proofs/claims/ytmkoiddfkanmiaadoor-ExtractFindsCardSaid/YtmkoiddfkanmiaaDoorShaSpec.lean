/- SHA-256 over BitVec 32, as the program's sha2 goes: plain functions on lists. No program in sight. -/
namespace Go.Proofs.YtmkoiddfkanmiaaDoor
namespace Sha
/-- Byte k of a list: a plain name. -/
def bt (l : List UInt8) (k : Nat) : UInt8 := l.getD k 0
def rd (A : List (BitVec 32)) (j : Nat) : BitVec 32 := A.getD j 0
def sml (x : BitVec 32) (p q r : Nat) : BitVec 32 := x.rotateRight p ^^^ x.rotateRight q ^^^ x >>> r
def bg (x : BitVec 32) (p q r : Nat) : BitVec 32 := x.rotateRight p ^^^ x.rotateRight q ^^^ x.rotateRight r
def by32 (b : UInt8) : BitVec 32 := BitVec.ofNat 32 b.toNat
/-- The first sixteen words, after k bytes of the block. -/
def spread1 (l : List UInt8) : Nat → List (BitVec 32)
  | 0 => List.replicate 64 0
  | k + 1 => (spread1 l k).set (k / 4) ((rd (spread1 l k) (k / 4) <<< 8) ||| by32 (bt l k))
def next1 (A : List (BitVec 32)) (i : Nat) : BitVec 32 := rd A i + sml (rd A (i + 1)) 7 18 3 + rd A (i + 9) + sml (rd A (i + 14)) 17 19 10
def spread2 (A : List (BitVec 32)) : Nat → List (BitVec 32)
  | 0 => A
  | i + 1 => (spread2 A i).set (16 + i) (next1 (spread2 A i) i)
def spread (l : List UInt8) : List (BitVec 32) := spread2 (spread1 l 64) 48
/-- The constants. -/
def KKn : List Nat := [1116352408, 1899447441, 3049323471, 3921009573, 961987163, 1508970993, 2453635748, 2870763221, 3624381080, 310598401, 607225278, 1426881987, 1925078388, 2162078206, 2614888103, 3248222580, 3835390401, 4022224774, 264347078, 604807628, 770255983, 1249150122, 1555081692, 1996064986, 2554220882, 2821834349, 2952996808, 3210313671, 3336571891, 3584528711, 113926993, 338241895, 666307205, 773529912, 1294757372, 1396182291, 1695183700, 1986661051, 2177026350, 2456956037, 2730485921, 2820302411, 3259730800, 3345764771, 3516065817, 3600352804, 4094571909, 275423344, 430227734, 506948616, 659060556, 883997877, 958139571, 1322822218, 1537002063, 1747873779, 1955562222, 2024104815, 2227730452, 2361852424, 2428436474, 2756734187, 3204031479, 3329325298]
def HHn : List Nat := [1779033703, 3144134277, 1013904242, 2773480762, 1359893119, 2600822924, 528734635, 1541459225]
def KK : List (BitVec 32) := KKn.map (BitVec.ofNat 32)
def HH : List (BitVec 32) := HHn.map (BitVec.ofNat 32)
/-- One round on the eight words. -/
def tee (v W : List (BitVec 32)) (i : Nat) : BitVec 32 := rd v 7 + bg (rd v 4) 6 11 25 + ((rd v 4 &&& rd v 5) ^^^ (~~~rd v 4 &&& rd v 6)) + rd KK i + rd W i
def you (v : List (BitVec 32)) : BitVec 32 := bg (rd v 0) 2 13 22 + ((rd v 0 &&& rd v 1) ^^^ (rd v 0 &&& rd v 2) ^^^ (rd v 1 &&& rd v 2))
def rnd (v W : List (BitVec 32)) (i : Nat) : List (BitVec 32) := [tee v W i + you v, rd v 0, rd v 1, rd v 2, rd v 3 + tee v W i, rd v 4, rd v 5, rd v 6]
def rnds (v W : List (BitVec 32)) : Nat → List (BitVec 32)
  | 0 => v
  | i + 1 => rnd (rnds v W i) W i
def addw (h v : List (BitVec 32)) : Nat → List (BitVec 32)
  | 0 => h
  | i + 1 => (addw h v i).set i (rd (addw h v i) i + rd v i)
/-- A block pressed into the words. -/
def press (h : List (BitVec 32)) (l : List UInt8) : List (BitVec 32) := addw h (rnds h (spread l) 64) 8
theorem KK_length : KK.length = 64 := rfl
theorem HH_length : HH.length = 8 := rfl
theorem rnds_length (v W : List (BitVec 32)) (hv : v.length = 8) (i : Nat) : (rnds v W i).length = 8 := by
  cases i with
  | zero => exact hv
  | succ i => rfl
theorem addw_length (h v : List (BitVec 32)) (i : Nat) : (addw h v i).length = h.length := by
  induction i with
  | zero => rfl
  | succ i ih => simp [addw, ih]
theorem press_length (h : List (BitVec 32)) (l : List UInt8) : (press h l).length = h.length := addw_length _ _ _
theorem spread1_length (l : List UInt8) (k : Nat) : (spread1 l k).length = 64 := by
  induction k with
  | zero => simp [spread1]
  | succ k ih => simp [spread1, ih]
theorem spread2_length (A : List (BitVec 32)) (k : Nat) : (spread2 A k).length = A.length := by
  induction k with
  | zero => simp [spread2]
  | succ k ih => simp [spread2, ih]
theorem spread_length (l : List UInt8) : (spread l).length = 64 := by simp [spread, spread2_length, spread1_length]
/-- So many blocks pressed into the words. -/
def pressN : Nat → List (BitVec 32) → List UInt8 → List (BitVec 32)
  | 0, H, _ => H
  | n + 1, H, l => pressN n (press H (l.take 64)) (l.drop 64)
/-- The words behind all full blocks; the bytes behind them. -/
def st (all : List UInt8) : List (BitVec 32) := pressN (all.length / 64) HH all
def rs (all : List UInt8) : List UInt8 := all.drop (64 * (all.length / 64))
theorem pressN_length (n : Nat) : ∀ (H : List (BitVec 32)) (l : List UInt8), (pressN n H l).length = H.length := by
  induction n with
  | zero => intro H l; rfl
  | succ n ih => intro H l; rw [pressN, ih, press_length]
theorem st_length (all : List UInt8) : (st all).length = 8 := by rw [st, pressN_length]; rfl
theorem pressN_succ (n : Nat) : ∀ (H : List (BitVec 32)) (l : List UInt8), pressN (n + 1) H l = press (pressN n H l) ((l.drop (64 * n)).take 64) := by
  induction n with
  | zero => intro H l; simp [pressN]
  | succ n ih =>
    intro H l
    rw [pressN, ih, pressN, List.drop_drop, show 64 + 64 * n = 64 * (n + 1) by omega]
theorem pressN_append (n : Nat) : ∀ (H : List (BitVec 32)) (l r : List UInt8), 64 * n ≤ l.length → pressN n H (l ++ r) = pressN n H l := by
  induction n with
  | zero => intro H l r _; rfl
  | succ n ih =>
    intro H l r h
    have h1 : 64 ≤ l.length := by omega
    rw [pressN, pressN, List.take_append_of_le_length h1, List.drop_append_of_le_length h1]
    exact ih _ _ _ (by rw [List.length_drop]; omega)
theorem pressN_add (a b : Nat) : ∀ (H : List (BitVec 32)) (l : List UInt8), pressN (a + b) H l = pressN b (pressN a H l) (l.drop (64 * a)) := by
  induction a with
  | zero => intro H l; simp [pressN]
  | succ a ih =>
    intro H l
    rw [show a + 1 + b = (a + b) + 1 by omega, pressN, ih, pressN, List.drop_drop, show 64 + 64 * a = 64 * (a + 1) by omega]
theorem rs_length (all : List UInt8) : (rs all).length = all.length % 64 := by rw [rs, List.length_drop]; omega
/-- Bytes more: the words go on from where they were, over what was left and the new ones. -/
theorem st_append (all l : List UInt8) : st (all ++ l) = pressN ((rs all ++ l).length / 64) (st all) (rs all ++ l) := by
  unfold st
  have e : (all ++ l).length / 64 = all.length / 64 + (rs all ++ l).length / 64 := by
    rw [List.length_append, List.length_append, rs_length]; omega
  have hd : (all ++ l).drop (64 * (all.length / 64)) = rs all ++ l := by
    rw [List.drop_append_of_le_length (by omega)]; rfl
  rw [e, pressN_add, pressN_append _ _ _ _ (by omega), hd]
theorem rs_append (all l : List UInt8) : rs (all ++ l) = (rs all ++ l).drop (64 * ((rs all ++ l).length / 64)) := by
  have hd : (all ++ l).drop (64 * (all.length / 64)) = rs all ++ l := by
    rw [List.drop_append_of_le_length (by omega)]; rfl
  rw [← hd, List.drop_drop]
  rw [show rs (all ++ l) = (all ++ l).drop (64 * ((all ++ l).length / 64)) from rfl]
  congr 1
  rw [List.length_drop, List.length_append]
  omega
/-- How many noughts come behind the mark, so that all but eight bytes are full blocks. -/
def zc (r : Nat) : Nat := (119 - r % 64) % 64
/-- The first j of the eight bytes of a number, the highest first. -/
def be (x : Nat) (j : Nat) : List UInt8 := (List.range j).map fun i => UInt8.ofNat (x / 2 ^ (8 * (7 - i)))
def padz (R : List UInt8) (j : Nat) : List UInt8 := R ++ 128 :: List.replicate j 0
/-- What is left, and all that comes behind it. -/
def pad (n : Nat) (R : List UInt8) : List UInt8 := padz R (zc R.length) ++ be (8 * n) 8
def by8 (x : BitVec 32) : UInt8 := UInt8.ofNat x.toNat
def four (x : BitVec 32) : List UInt8 := [by8 (x >>> 24), by8 (x >>> 16), by8 (x >>> 8), by8 x]
def outb (W : List (BitVec 32)) : List UInt8 := W.flatMap four
/-- The sum of all that was written. -/
def sha (all : List UInt8) : List UInt8 := outb (pressN ((pad all.length (rs all)).length / 64) (st all) (pad all.length (rs all)))
theorem padz_length (R : List UInt8) (j : Nat) : (padz R j).length = R.length + 1 + j := by simp [padz]; omega
theorem padz_succ (R : List UInt8) (j : Nat) : padz R (j + 1) = padz R j ++ [0] := by
  unfold padz; rw [List.replicate_succ']; simp
theorem be_length (x j : Nat) : (be x j).length = j := by simp [be]
theorem be_succ (x j : Nat) : be x (j + 1) = be x j ++ [UInt8.ofNat (x / 2 ^ (8 * (7 - j)))] := by
  unfold be; rw [List.range_succ, List.map_append]; rfl
theorem zc_spec (r : Nat) : (r + 1 + zc r) % 64 = 56 := by unfold zc; omega
theorem zc_first (r j : Nat) (h : (r + 1 + j) % 64 = 56) : zc r ≤ j := by unfold zc; omega
theorem zc_le (r : Nat) : zc r ≤ 63 := by unfold zc; omega
theorem pad_length (n : Nat) (R : List UInt8) : (pad n R).length = R.length + 9 + zc R.length := by
  unfold pad; rw [List.length_append, padz_length, be_length]; omega
theorem pad_mod (n : Nat) (R : List UInt8) : (pad n R).length % 64 = 0 := by
  rw [pad_length]; have := zc_spec R.length; omega
theorem outb_length (W : List (BitVec 32)) : (outb W).length = 4 * W.length := by
  induction W with
  | nil => rfl
  | cons x W ih => simp only [outb, List.flatMap_cons, List.length_append, List.length_cons] at ih ⊢; rw [ih]; simp [four]; omega
theorem outb_append (V W : List (BitVec 32)) : outb (V ++ W) = outb V ++ outb W := by simp [outb]
theorem sha_length (all : List UInt8) : (sha all).length = 32 := by
  rw [sha, outb_length, pressN_length, st_length]
/-- The sum reckoned over all bytes at once. -/
theorem sha_whole (l : List UInt8) : sha l = outb (pressN ((pad l.length l).length / 64) HH (pad l.length l)) := by
  have hz : zc (rs l).length = zc l.length := by unfold zc; rw [rs_length]; omega
  have hp : pad l.length l = l.take (64 * (l.length / 64)) ++ pad l.length (rs l) := by
    unfold pad padz
    rw [hz]
    conv => lhs; rw [← List.take_append_drop (64 * (l.length / 64)) l]
    simp only [List.append_assoc, rs, List.length_append, List.length_take, List.length_drop]
    rw [show min (64 * (l.length / 64)) l.length + (l.length - 64 * (l.length / 64)) = l.length from by omega]
  have hl : (l.take (64 * (l.length / 64))).length = 64 * (l.length / 64) := by rw [List.length_take]; omega
  have hn : (pad l.length l).length / 64 = l.length / 64 + (pad l.length (rs l)).length / 64 := by
    rw [hp, List.length_append, hl]; omega
  rw [hn, pressN_add]
  have h1 : pressN (l.length / 64) HH (pad l.length l) = st l := by
    unfold st
    unfold pad padz
    rw [List.append_assoc]
    exact pressN_append _ _ _ _ (by omega)
  have h2 : (pad l.length l).drop (64 * (l.length / 64)) = pad l.length (rs l) := by
    rw [hp, List.drop_append_of_le_length (by omega), List.drop_of_length_le (by omega)]; rfl
  rw [h1, h2]; rfl
/-- A word of four bytes. -/
def w4 (a b c d : UInt8) : BitVec 32 := by32 a <<< 24 ||| by32 b <<< 16 ||| by32 c <<< 8 ||| by32 d
/-- The reference's words of a block, after i of them. -/
def refw (l : List UInt8) : Nat → List (BitVec 32)
  | 0 => List.replicate 64 0
  | i + 1 => if i < 16 then (refw l i).set i (w4 (bt l (4 * i)) (bt l (4 * i + 1)) (bt l (4 * i + 2)) (bt l (4 * i + 3))) else (refw l i).set i (next1 (refw l i) (i - 16))
theorem refw_length (l : List UInt8) (k : Nat) : (refw l k).length = 64 := by
  induction k with
  | zero => simp [refw]
  | succ k ih => rw [refw]; split <;> simp [ih]
end Sha
end Go.Proofs.YtmkoiddfkanmiaaDoor
