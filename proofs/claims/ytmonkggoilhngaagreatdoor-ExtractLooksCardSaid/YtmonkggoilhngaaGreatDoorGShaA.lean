/- Walks of sha2's small functions: rotate, turn, small, big. -/
import Derived.Test.YtmonkggoilhngaaGreatDoorGRegion
import Derived.Test.YtmonkggoilhngaaGreatDoorChecked
import Derived.WalkSpells
import Derived.WalkLawsBesides
import Derived.Deep.QuietTactic
import Derived.BigQuiet
import Derived.Deep.Draws
import Derived.Lib.Hide
import Derived.Deep.LoopGhost
import Derived.Deep.DeepFit
import Derived.KernelRfl
namespace Go.Proofs.YtmonkggoilhngaaGreatDoor
open Go.RowKit Bits
namespace Sha
theorem rotArg (m : Nat) (h0 : 0 < m) (h1 : m < 32) : bits .and .u64 (IntKind.u64.wrap (-(m : Int))) 31 = ((32 - m : Nat) : Int) := by
  have e : IntKind.u64.wrap (-(m : Int)) = ((18446744073709551616 - m : Nat) : Int) := by rw [IntKind.wrap_u64]; omega
  rw [e]
  have h := u64_and_nat (18446744073709551616 - m) 31 (by omega) (by omega)
  rw [show ((31 : Nat) : Int) = 31 from rfl] at h
  rw [h, show (31 : Nat) = 2 ^ 5 - 1 from rfl, Nat.and_two_pow_sub_one_eq_mod]
  omega
set_option maxRecDepth 100000 in
set_option maxHeartbeats 400000 in
theorem rot_any (x : BitVec 32) (m : Nat) (w : World) (h0 : 0 < m) (h1 : m < 32) :
    Calls Tryz.prog 137 #[.int .u32 (n32 x), .int .i64 (-(m : Int))] w fun e w' => e = .returned (.int .u32 (n32 (x.rotateRight m))) ∧ w = w' := by
  have r1 := rotArg m h0 h1
  have r4 : IntKind.u64.wrap (32 - ((32 - m : Nat) : Int)) = (m : Int) := by rw [IntKind.wrap_u64]; omega
  have r5 := Bits.rotRight x m h1
  go_enter Tryz.func137, Tryz.ntmps137
  go_wp2
  go_ret
  exact ⟨rfl, rfl⟩
set_option maxRecDepth 100000 in
set_option maxHeartbeats 400000 in
theorem turn_any (x : BitVec 32) (m : Nat) (w : World) (h0 : 0 < m) (h1 : m < 32) :
    Calls Tryz.prog 122 #[.int .u32 (n32 x), .int .i64 (m : Int)] w fun e w' => e = .returned (.int .u32 (n32 (x.rotateRight m))) ∧ w = w' := by
  go_enter Tryz.func122, Tryz.ntmps122
  go_wp2_with (go_at_call 137; refine (rot_any _ _ _ h0 h1).mono ?_; rintro e w' ⟨rfl, rfl⟩)
  go_ret
  exact ⟨rfl, rfl⟩
end Sha
end Go.Proofs.YtmonkggoilhngaaGreatDoor
/- SHA-256 over BitVec 32, as the program's sha2 goes: plain functions on lists. No program in sight. -/
namespace Go.Proofs.YtmonkggoilhngaaGreatDoor
namespace Sha
def bt (l : List UInt8) (k : Nat) : UInt8 := l.getD k 0
def rd (A : List (BitVec 32)) (j : Nat) : BitVec 32 := A.getD j 0
def sml (x : BitVec 32) (p q r : Nat) : BitVec 32 := x.rotateRight p ^^^ x.rotateRight q ^^^ x >>> r
def bg (x : BitVec 32) (p q r : Nat) : BitVec 32 := x.rotateRight p ^^^ x.rotateRight q ^^^ x.rotateRight r
def by32 (b : UInt8) : BitVec 32 := BitVec.ofNat 32 b.toNat
def spread1 (l : List UInt8) : Nat → List (BitVec 32)
  | 0 => List.replicate 64 0
  | k + 1 => (spread1 l k).set (k / 4) ((rd (spread1 l k) (k / 4) <<< 8) ||| by32 (bt l k))
def next1 (A : List (BitVec 32)) (i : Nat) : BitVec 32 := rd A i + sml (rd A (i + 1)) 7 18 3 + rd A (i + 9) + sml (rd A (i + 14)) 17 19 10
def spread2 (A : List (BitVec 32)) : Nat → List (BitVec 32)
  | 0 => A
  | i + 1 => (spread2 A i).set (16 + i) (next1 (spread2 A i) i)
def spread (l : List UInt8) : List (BitVec 32) := spread2 (spread1 l 64) 48
def KKn : List Nat := [1116352408, 1899447441, 3049323471, 3921009573, 961987163, 1508970993, 2453635748, 2870763221, 3624381080, 310598401, 607225278, 1426881987, 1925078388, 2162078206, 2614888103, 3248222580, 3835390401, 4022224774, 264347078, 604807628, 770255983, 1249150122, 1555081692, 1996064986, 2554220882, 2821834349, 2952996808, 3210313671, 3336571891, 3584528711, 113926993, 338241895, 666307205, 773529912, 1294757372, 1396182291, 1695183700, 1986661051, 2177026350, 2456956037, 2730485921, 2820302411, 3259730800, 3345764771, 3516065817, 3600352804, 4094571909, 275423344, 430227734, 506948616, 659060556, 883997877, 958139571, 1322822218, 1537002063, 1747873779, 1955562222, 2024104815, 2227730452, 2361852424, 2428436474, 2756734187, 3204031479, 3329325298]
def HHn : List Nat := [1779033703, 3144134277, 1013904242, 2773480762, 1359893119, 2600822924, 528734635, 1541459225]
def KK : List (BitVec 32) := KKn.map (BitVec.ofNat 32)
def HH : List (BitVec 32) := HHn.map (BitVec.ofNat 32)
def tee (v W : List (BitVec 32)) (i : Nat) : BitVec 32 := rd v 7 + bg (rd v 4) 6 11 25 + ((rd v 4 &&& rd v 5) ^^^ (~~~rd v 4 &&& rd v 6)) + rd KK i + rd W i
def you (v : List (BitVec 32)) : BitVec 32 := bg (rd v 0) 2 13 22 + ((rd v 0 &&& rd v 1) ^^^ (rd v 0 &&& rd v 2) ^^^ (rd v 1 &&& rd v 2))
def rnd (v W : List (BitVec 32)) (i : Nat) : List (BitVec 32) := [tee v W i + you v, rd v 0, rd v 1, rd v 2, rd v 3 + tee v W i, rd v 4, rd v 5, rd v 6]
def rnds (v W : List (BitVec 32)) : Nat → List (BitVec 32)
  | 0 => v
  | i + 1 => rnd (rnds v W i) W i
def addw (h v : List (BitVec 32)) : Nat → List (BitVec 32)
  | 0 => h
  | i + 1 => (addw h v i).set i (rd (addw h v i) i + rd v i)
def press (h : List (BitVec 32)) (l : List UInt8) : List (BitVec 32) := addw h (rnds h (spread l) 64) 8
theorem KK_length : KK.length = 64 := rfl
theorem HH_length : HH.length = 8 := rfl
theorem rnds_length (v W : List (BitVec 32)) (hv : v.length = 8) (i : Nat) : (rnds v W i).length = 8 := by
  cases i with
  | zero => exact hv
  | succ i => rfl
theorem addw_length (h v : List (BitVec 32)) (i : Nat) : (addw h v i).length = h.length := by
  induction i with
  | zero => rfl
  | succ i ih => simp [addw, ih]
theorem press_length (h : List (BitVec 32)) (l : List UInt8) : (press h l).length = h.length := addw_length _ _ _
theorem spread1_length (l : List UInt8) (k : Nat) : (spread1 l k).length = 64 := by
  induction k with
  | zero => simp [spread1]
  | succ k ih => simp [spread1, ih]
theorem spread2_length (A : List (BitVec 32)) (k : Nat) : (spread2 A k).length = A.length := by
  induction k with
  | zero => simp [spread2]
  | succ k ih => simp [spread2, ih]
theorem spread_length (l : List UInt8) : (spread l).length = 64 := by simp [spread, spread2_length, spread1_length]
def pressN : Nat → List (BitVec 32) → List UInt8 → List (BitVec 32)
  | 0, H, _ => H
  | n + 1, H, l => pressN n (press H (l.take 64)) (l.drop 64)
def st (all : List UInt8) : List (BitVec 32) := pressN (all.length / 64) HH all
def rs (all : List UInt8) : List UInt8 := all.drop (64 * (all.length / 64))
theorem pressN_length (n : Nat) : ∀ (H : List (BitVec 32)) (l : List UInt8), (pressN n H l).length = H.length := by
  induction n with
  | zero => intro H l; rfl
  | succ n ih => intro H l; rw [pressN, ih, press_length]
theorem st_length (all : List UInt8) : (st all).length = 8 := by rw [st, pressN_length]; rfl
theorem pressN_succ (n : Nat) : ∀ (H : List (BitVec 32)) (l : List UInt8), pressN (n + 1) H l = press (pressN n H l) ((l.drop (64 * n)).take 64) := by
  induction n with
  | zero => intro H l; simp [pressN]
  | succ n ih =>
    intro H l
    rw [pressN, ih, pressN, List.drop_drop, show 64 + 64 * n = 64 * (n + 1) by omega]
theorem pressN_append (n : Nat) : ∀ (H : List (BitVec 32)) (l r : List UInt8), 64 * n ≤ l.length → pressN n H (l ++ r) = pressN n H l := by
  induction n with
  | zero => intro H l r _; rfl
  | succ n ih =>
    intro H l r h
    have h1 : 64 ≤ l.length := by omega
    rw [pressN, pressN, List.take_append_of_le_length h1, List.drop_append_of_le_length h1]
    exact ih _ _ _ (by rw [List.length_drop]; omega)
theorem pressN_add (a b : Nat) : ∀ (H : List (BitVec 32)) (l : List UInt8), pressN (a + b) H l = pressN b (pressN a H l) (l.drop (64 * a)) := by
  induction a with
  | zero => intro H l; simp [pressN]
  | succ a ih =>
    intro H l
    rw [show a + 1 + b = (a + b) + 1 by omega, pressN, ih, pressN, List.drop_drop, show 64 + 64 * a = 64 * (a + 1) by omega]
theorem rs_length (all : List UInt8) : (rs all).length = all.length % 64 := by rw [rs, List.length_drop]; omega
theorem st_append (all l : List UInt8) : st (all ++ l) = pressN ((rs all ++ l).length / 64) (st all) (rs all ++ l) := by
  unfold st
  have e : (all ++ l).length / 64 = all.length / 64 + (rs all ++ l).length / 64 := by
    rw [List.length_append, List.length_append, rs_length]; omega
  have hd : (all ++ l).drop (64 * (all.length / 64)) = rs all ++ l := by
    rw [List.drop_append_of_le_length (by omega)]; rfl
  rw [e, pressN_add, pressN_append _ _ _ _ (by omega), hd]
theorem rs_append (all l : List UInt8) : rs (all ++ l) = (rs all ++ l).drop (64 * ((rs all ++ l).length / 64)) := by
  have hd : (all ++ l).drop (64 * (all.length / 64)) = rs all ++ l := by
    rw [List.drop_append_of_le_length (by omega)]; rfl
  rw [← hd, List.drop_drop]
  rw [show rs (all ++ l) = (all ++ l).drop (64 * ((all ++ l).length / 64)) from rfl]
  congr 1
  rw [List.length_drop, List.length_append]
  omega
def zc (r : Nat) : Nat := (119 - r % 64) % 64
def be (x : Nat) (j : Nat) : List UInt8 := (List.range j).map fun i => UInt8.ofNat (x / 2 ^ (8 * (7 - i)))
def padz (R : List UInt8) (j : Nat) : List UInt8 := R ++ 128 :: List.replicate j 0
def pad (n : Nat) (R : List UInt8) : List UInt8 := padz R (zc R.length) ++ be (8 * n) 8
def by8 (x : BitVec 32) : UInt8 := UInt8.ofNat x.toNat
def four (x : BitVec 32) : List UInt8 := [by8 (x >>> 24), by8 (x >>> 16), by8 (x >>> 8), by8 x]
def outb (W : List (BitVec 32)) : List UInt8 := W.flatMap four
def sha (all : List UInt8) : List UInt8 := outb (pressN ((pad all.length (rs all)).length / 64) (st all) (pad all.length (rs all)))
theorem padz_length (R : List UInt8) (j : Nat) : (padz R j).length = R.length + 1 + j := by simp [padz]; omega
theorem padz_succ (R : List UInt8) (j : Nat) : padz R (j + 1) = padz R j ++ [0] := by
  unfold padz; rw [List.replicate_succ']; simp
theorem be_length (x j : Nat) : (be x j).length = j := by simp [be]
theorem be_succ (x j : Nat) : be x (j + 1) = be x j ++ [UInt8.ofNat (x / 2 ^ (8 * (7 - j)))] := by
  unfold be; rw [List.range_succ, List.map_append]; rfl
theorem zc_spec (r : Nat) : (r + 1 + zc r) % 64 = 56 := by unfold zc; omega
theorem zc_first (r j : Nat) (h : (r + 1 + j) % 64 = 56) : zc r ≤ j := by unfold zc; omega
theorem zc_le (r : Nat) : zc r ≤ 63 := by unfold zc; omega
theorem pad_length (n : Nat) (R : List UInt8) : (pad n R).length = R.length + 9 + zc R.length := by
  unfold pad; rw [List.length_append, padz_length, be_length]; omega
theorem pad_mod (n : Nat) (R : List UInt8) : (pad n R).length % 64 = 0 := by
  rw [pad_length]; have := zc_spec R.length; omega
theorem outb_length (W : List (BitVec 32)) : (outb W).length = 4 * W.length := by
  induction W with
  | nil => rfl
  | cons x W ih => simp only [outb, List.flatMap_cons, List.length_append, List.length_cons] at ih ⊢; rw [ih]; simp [four]; omega
theorem outb_append (V W : List (BitVec 32)) : outb (V ++ W) = outb V ++ outb W := by simp [outb]
theorem sha_length (all : List UInt8) : (sha all).length = 32 := by
  rw [sha, outb_length, pressN_length, st_length]
def w4 (a b c d : UInt8) : BitVec 32 := by32 a <<< 24 ||| by32 b <<< 16 ||| by32 c <<< 8 ||| by32 d
end Sha
end Go.Proofs.YtmonkggoilhngaaGreatDoor
/- Walks of sha2.small, big, spread. -/
namespace Go.Proofs.YtmonkggoilhngaaGreatDoor
open Go.RowKit Bits
namespace Sha
set_option maxRecDepth 100000 in
set_option maxHeartbeats 400000 in
theorem big_any (x : BitVec 32) (p q r : Int) (w : World) (hp : 0 < p) (hp' : p < 32) (hq : 0 < q) (hq' : q < 32) (hr : 0 < r) (hr' : r < 32) :
    Calls Tryz.prog 98 #[.int .u32 (n32 x), .int .i64 p, .int .i64 q, .int .i64 r] w fun e w' => e = .returned (.int .u32 (n32 (bg x p.toNat q.toNat r.toNat))) ∧ w = w' := by
  obtain ⟨p, rfl⟩ := Int.eq_ofNat_of_zero_le (Int.le_of_lt hp)
  obtain ⟨q, rfl⟩ := Int.eq_ofNat_of_zero_le (Int.le_of_lt hq)
  obtain ⟨r, rfl⟩ := Int.eq_ofNat_of_zero_le (Int.le_of_lt hr)
  simp only [Int.toNat_natCast]
  go_enter Tryz.func98, Tryz.ntmps98
  go_wp2_with (go_at_call 122; refine (turn_any _ _ _ (by omega) (by omega)).mono ?_; rintro e w' ⟨rfl, rfl⟩)
  go_ret
  exact ⟨rfl, rfl⟩
set_option maxRecDepth 100000 in
set_option maxHeartbeats 400000 in
theorem small_any (x : BitVec 32) (p q r : Int) (w : World) (hp : 0 < p) (hp' : p < 32) (hq : 0 < q) (hq' : q < 32) (hr : 0 < r) (hr' : r < 32) :
    Calls Tryz.prog 121 #[.int .u32 (n32 x), .int .i64 p, .int .i64 q, .int .i64 r] w fun e w' => e = .returned (.int .u32 (n32 (sml x p.toNat q.toNat r.toNat))) ∧ ∃ m, w' = w.drewN m := by
  obtain ⟨p, rfl⟩ := Int.eq_ofNat_of_zero_le (Int.le_of_lt hp)
  obtain ⟨q, rfl⟩ := Int.eq_ofNat_of_zero_le (Int.le_of_lt hq)
  obtain ⟨r, rfl⟩ := Int.eq_ofNat_of_zero_le (Int.le_of_lt hr)
  simp only [Int.toNat_natCast]
  go_enter Tryz.func121, Tryz.ntmps121
  go_wp2_with fail
  go_quiet ((go_at_call 122; exact Calls.quiet_of_same ((turn_any _ _ _ (by omega) (by omega)).mono fun _ _ h => ⟨h.1, h.2.symm⟩)))
  go_wp2
  go_ret
  exact ⟨rfl, _, rfl⟩
def cells (A : List (BitVec 32)) : Array Value := (A.map fun x => Value.int .u32 (n32 x)).toArray
theorem cells_get (A : List (BitVec 32)) (j : Nat) (h : j < A.length) : (cells A)[j]? = some (.int .u32 (n32 (rd A j))) := by
  simp [cells, rd, List.getD, h]
theorem cells_size (A : List (BitVec 32)) : (cells A).size = A.length := by simp [cells]
theorem cells_one (A : List (BitVec 32)) : (cells A).all (·.oneCell') = true := by
  rw [Array.all_eq_true_iff_forall_mem]; intro v hv; simp [cells] at hv; obtain ⟨x, _, rfl⟩ := hv; rfl
theorem cells_set (A : List (BitVec 32)) (j : Nat) (x : BitVec 32) : (cells A).setIfInBounds j (.int .u32 (n32 x)) = cells (A.set j x) := by
  simp [cells, List.map_set]
@[go_sem] theorem by32_wrap (b : UInt8) : IntKind.u32.wrap (b.toNat : Int) = n32 (by32 b) := by
  have := b.toNat_lt
  rw [IntKind.wrap_u32']; unfold n32 by32; rw [BitVec.toNat_ofNat]; omega
@[go_sem] theorem by32_mod (b : UInt8) : (b.toNat : Int) % 4294967296 = n32 (by32 b) := by
  have := by32_wrap b; rw [IntKind.wrap_u32'] at this; exact this
def zeros64 : List (BitVec 32) := List.replicate 64 0
theorem cells_zero : cells zeros64 = Array.replicate 64 (.int .u32 0) := by kernel_rfl
theorem info64 : (Tryz.prog.info? 160).map (·.size) = some 64 := by kernel_rfl
set_option maxRecDepth 100000 in
set_option maxHeartbeats 400000 in
set_option maxRecDepth 100000 in
theorem spread_any (l : List UInt8) (b off len cap : Nat) (w : World) (hl : 64 ≤ l.length) (hlen : l.length = len) (hcap : len ≤ cap) (hm : cap ≤ 9223372036854775807)
    (hc : ∀ k, k < len → w.cell? ⟨b, off + k, none⟩ = some (.int .u8 ((bt l k).toNat : Int))) :
    Calls Tryz.prog 97 #[.slice (some ⟨b, off, none⟩) len cap] w fun e w' => e = .returned (.agg (cells (spread l))) ∧ Below w.heap.size w w' := by
  have h64 : 64 ≤ len := by omega
  have h64' : 64 ≤ cap := by omega
  have H1 := Lib.hid hlen; clear hlen
  have H2 := Lib.hid hc; clear hc
  go_enter Tryz.func97, Tryz.ntmps97
  go_wp2
  go_loopw [9] (fun i wr => ∃ k : Nat, k ≤ 64 ∧ i = .int .i64 k ∧ ∃ n, wr = ((w.alloc (.cells (cells zeros64) 160)).alloc (.cells (cells (spread1 l k)) 160)).drewN n) (fun i _ => 64 - (intOf i).toNat)
  case atStart => exact ⟨0, by omega, rfl, 0, by rw [show spread1 l 0 = zeros64 from rfl, cells_zero]; rfl⟩
  case round =>
    obtain ⟨k, hk, rfl, n, rfl⟩ := hrel
    by_cases hlt : k < 64
    · have hcell := H2.out k (by omega)
      have hrd := cells_get (spread1 l k) (k / 4) (by rw [spread1_length]; omega)
      have hb : b < w.heap.size := World.block_lt_of_cell? _ _ hcell
      go_wp2
      have q1 : (0 : Int) ≤ (k : Int) / 4 := by omega
      have q2 : (k : Int) / 4 < 64 := by omega
      have q3 : (k : Int) < (len : Int) := by omega
      have q4 : ((k : Int) / 4).toNat = k / 4 := by omega
      have q5 : k / 4 < 64 := by omega
      refine Rg.tail (fun w' => ∃ n, w' = ((w.alloc (.cells (cells zeros64) 160)).alloc (.cells (cells (spread1 l k)) 160)).drewN n) 14 (by kernel_rfl) (by kernel_rfl) ⟨n + 1, rfl⟩ ?_; simp only [List.take_succ_cons, List.take_zero, List.drop_succ_cons, List.drop_zero]
      repeat (refine Rg.stepK rfl ?_; intro K hK; apply Exists.intro; refine ⟨?_, ?_⟩; (focus (intro w' hw'; obtain ⟨nq, rfl⟩ := hw'; go_simp; (first | (fail) | ((try go_bits); (try go_simp); (try rfl))))); go_simp; refine hK _ ?_; clear hK K)
      refine wpQuiet_nil ?_; intro w' hw'; obtain ⟨nq, rfl⟩ := hw'
      go_wp2
      go_roundw
      case rel => exact ⟨k + 1, by omega, by go_num, nq, by simp only [spread1]; rw [← cells_set]⟩
      case measure => simp [intOf]; omega
    · obtain rfl : k = 64 := by omega
      rw [show ((64 : Nat) : Int) = 64 from rfl]
      go_wp2
      obtain ⟨A0, hA0⟩ : ∃ A, A = spread1 l 64 := ⟨_, rfl⟩
      have hL0 : A0.length = 64 := by rw [hA0, spread1_length]
      have HA := Lib.hid hA0
      rw [← hA0]
      clear hA0
      go_loopw [5] (fun i wr => ∃ k : Nat, k ≤ 48 ∧ i = .int .i64 (16 + k) ∧ ∃ n, wr = ((w.alloc (.cells (cells zeros64) 160)).alloc (.cells (cells (spread2 A0 k)) 160)).drewN n) (fun i _ => 64 - (intOf i).toNat)
      case atStart => exact ⟨0, by omega, rfl, n, rfl⟩
      case round =>
        obtain ⟨k, hk, rfl, n, rfl⟩ := hrel
        by_cases hlt : k < 48
        · have hL : (spread2 A0 k).length = 64 := by rw [spread2_length]; exact hL0
          have hrd1 := cells_get (spread2 A0 k) k (by omega)
          have hrd2 := cells_get (spread2 A0 k) (k + 1) (by omega)
          have hrd3 := cells_get (spread2 A0 k) (k + 9) (by omega)
          have hrd4 := cells_get (spread2 A0 k) (k + 14) (by omega)
          have hrd5 := cells_get (spread2 A0 k) (16 + k) (by omega)
          have e1 : IntKind.i64.wrap (16 + (k : Int) - 16) = (k : Int) := by rw [IntWalk.i64_in _ (by omega)]; omega
          have e2 : IntKind.i64.wrap (16 + (k : Int) - 15) = (k : Int) + 1 := by rw [IntWalk.i64_in _ (by omega)]; omega
          have e3 : IntKind.i64.wrap (16 + (k : Int) - 7) = (k : Int) + 9 := by rw [IntWalk.i64_in _ (by omega)]; omega
          have e4 : IntKind.i64.wrap (16 + (k : Int) - 2) = (k : Int) + 14 := by rw [IntWalk.i64_in _ (by omega)]; omega
          have f1 : (k : Int) < 64 ∧ (k : Int) + 1 < 64 ∧ (k : Int) + 9 < 64 ∧ (k : Int) + 14 < 64 := by omega
          have f2 : (0 : Int) ≤ (k : Int) + 1 ∧ (0 : Int) ≤ (k : Int) + 9 ∧ (0 : Int) ≤ (k : Int) + 14 := by omega
          have f3 : ((k : Int) + 1).toNat = k + 1 ∧ ((k : Int) + 9).toNat = k + 9 ∧ ((k : Int) + 14).toNat = k + 14 := by omega
          have f5 : (0 : Int) ≤ 16 + (k : Int) := by omega
          have f6 : (16 + (k : Int)).toNat = 16 + k := by omega
          go_wp2
          refine Rg.tail (fun w' => ∃ n, w' = ((w.alloc (.cells (cells zeros64) 160)).alloc (.cells (cells (spread2 A0 k)) 160)).drewN n) 23 (by kernel_rfl) (by kernel_rfl) ⟨n + 1, rfl⟩ ?_; simp only [List.take_succ_cons, List.take_zero, List.drop_succ_cons, List.drop_zero]
          repeat (refine Rg.stepK rfl ?_; intro K hK; apply Exists.intro; refine ⟨?_, ?_⟩; (focus (intro w' hw'; obtain ⟨nq, rfl⟩ := hw'; go_simp; (first | (go_at_call 121; exact Calls.quiet_of (small_any _ _ _ _ _ (by omega) (by omega) (by omega) (by omega) (by omega) (by omega))) | ((try go_bits); (try go_simp); (try rfl))))); go_simp; refine hK _ ?_; clear hK K)
          refine wpQuiet_nil ?_; intro w' hw'; obtain ⟨nq, rfl⟩ := hw'
          go_wp2
          go_roundw
          case rel => exact ⟨k + 1, by omega, by go_num, nq, by simp only [spread2, next1]; rw [← cells_set]⟩
          case measure => simp [intOf]; omega
        · obtain rfl : k = 48 := by omega
          have hL : (spread2 A0 48).length = 64 := by rw [spread2_length]; exact hL0
          have hi : (Tryz.prog.info? 160).map (·.size) = some (cells (spread2 A0 48)).size := by rw [cells_size, hL]; exact info64
          have hz : (cells zeros64).size = (cells (spread2 A0 48)).size := by rw [cells_size, cells_size, hL]; rfl
          have HF : Hid (spread l = spread2 A0 48) := by rw [HA.out]; exact Lib.hid rfl
          have H3 := Lib.hid hi; clear hi
          have H4 := Lib.hid hz; clear hz
          generalize hB : spread2 A0 48 = B at *
          clear hB hL
          go_wp2_with (first | (refine wpList_load_row rfl 160 _ rfl (w.heap.size + 1) rfl 160 (cells B) (0, 0) _ (by exact Rg.heap_alloc_at _ _ _ (by simp)) Tryz.underlying160 rfl H3.out ?_) | (refine Rg.store_row rfl 160 _ _ rfl w.heap.size rfl 160 (cells zeros64) (cells B) rfl (by exact (Rg.heap_alloc_past _ _ _ (by simp)).trans (Rg.heap_alloc_at _ _ _ rfl)) H3.out H4.out (cells_one _) ?_))
          refine bodyPost_ret (v := .agg (cells B)) (results_cell_row (P := Tryz.prog) rfl _ _ w.heap.size 160 (cells B) (0, 0) _ rfl (setRow_heap _ _ (cells zeros64) _ 160 _ ((Rg.heap_alloc_past _ _ _ (by simp)).trans (Rg.heap_alloc_at _ _ _ rfl))) Tryz.underlying160 rfl H3.out) rfl ⟨by rw [HF.out], ?_⟩
          exact Rg.below_setRow (Rg.below_drewN (((Below.refl _ _).alloc (Nat.le_refl _) _).alloc (by simp) _) _) (Nat.le_refl _) _
end Sha
end Go.Proofs.YtmonkggoilhngaaGreatDoor
/- The walk of sha2.press. -/
namespace Go.Proofs.YtmonkggoilhngaaGreatDoor
open Go.RowKit Bits
namespace Sha
structure Tabs (w : World) : Prop where
  start : ∃ t f, w.heap[(0 : Nat)]? = some (.cells (cells HH) t f)
  rounds : ∃ t f, w.heap[(1 : Nat)]? = some (.cells (cells KK) t f)
theorem lt_of_heap {w : World} {g : Nat} {o : Obj} (h : w.heap[g]? = some o) : g < w.heap.size := (Array.getElem?_eq_some_iff.1 h).1
theorem Tabs.lt1 {w : World} (h : Tabs w) : (0 : Nat) < w.heap.size := by obtain ⟨_, _, h⟩ := h.start; exact lt_of_heap h
theorem Tabs.lt2 {w : World} (h : Tabs w) : (1 : Nat) < w.heap.size := by obtain ⟨_, _, h⟩ := h.rounds; exact lt_of_heap h
theorem Tabs.below {w w' : World} (h : Tabs w) (hb : Below w.heap.size w w') : Tabs w' := by
  obtain ⟨t, f, h1⟩ := h.start
  obtain ⟨t', f', h2⟩ := h.rounds
  exact ⟨⟨t, f, Rg.below_row hb h.lt1 h1⟩, ⟨t', f', Rg.below_row hb h.lt2 h2⟩⟩
theorem info8 : (Tryz.prog.info? 129).map (·.size) = some 8 := by kernel_rfl
set_option maxRecDepth 100000 in
set_option maxHeartbeats 1000000 in
theorem press_any (H : List (BitVec 32)) (l : List UInt8) (b off len cap : Nat) (w : World) (hH : H.length = 8) (hT : Tabs w) (hl : 64 ≤ l.length) (hlen : l.length = len) (hcap : len ≤ cap) (hm : cap ≤ 9223372036854775807)
    (hc : ∀ k, k < len → w.cell? ⟨b, off + k, none⟩ = some (.int .u8 ((bt l k).toNat : Int))) :
    Calls Tryz.prog 72 #[.agg (cells H), .slice (some ⟨b, off, none⟩) len cap] w fun e w' => e = .returned (.agg (cells (press H l))) ∧ Below w.heap.size w w' := by
  have hb : b < w.heap.size := World.block_lt_of_cell? _ _ (hc 0 (by omega))
  have H1 := Lib.hid hlen
  have H2 := Lib.hid hc; clear hc
  have HL := Lib.hid hH
  go_enter Tryz.func72, Tryz.ntmps72
  go_wp2_with fail
  refine (spread_any l b off len cap _ hl hlen hcap hm ?_).mono ?_
  · intro k hk
    rw [World.cell?_alloc_past _ _ _ (by simp; omega), World.cell?_alloc_past _ _ _ hb]
    exact H2.out k hk
  · rintro e w1 ⟨rfl, hB1⟩
    have g0 := Rg.below_row hB1 (g := w.heap.size) (by simp; omega) ((Rg.heap_alloc_past _ _ _ (by simp)).trans (Rg.heap_alloc_at _ _ _ rfl))
    have g1 := Rg.below_row hB1 (g := w.heap.size + 1) (by simp) (Rg.heap_alloc_at _ _ _ (by simp))
    have z1 : w.heap.size + 1 < w1.heap.size := by have := hB1.size; simp at this; omega
    have hBw : Below w.heap.size w w1 := (((Below.refl _ _).alloc (Nat.le_refl _) _).alloc (by simp) _).trans (hB1.mono (by simp; omega))
    have hT1 := hT.below hBw
    have hi64 : (Tryz.prog.info? 160).map (·.size) = some (cells (spread l)).size := by rw [cells_size, spread_length]; exact info64
    have hi8 : (Tryz.prog.info? 129).map (·.size) = some (cells H).size := by rw [cells_size, hH]; exact info8
    have hz64 : (cells zeros64).size = (cells (spread l)).size := by rw [cells_size, cells_size, spread_length]; rfl
    have hz8 : (#[Value.int .u32 0, .int .u32 0, .int .u32 0, .int .u32 0, .int .u32 0, .int .u32 0, .int .u32 0, .int .u32 0] : Array Value).size = (cells H).size := by rw [cells_size, hH]; rfl
    have HI64 := Lib.hid hi64; clear hi64
    have HI8 := Lib.hid hi8; clear hi8
    have HZ64 := Lib.hid hz64; clear hz64
    have HZ8 := Lib.hid hz8; clear hz8
    have G0 := Lib.hid g0; clear g0
    have G1 := Lib.hid g1; clear g1
    clear hB1
    generalize hS : spread l = S at *
    have HS := Lib.hid hS; clear hS
    go_wp2_with (first | (refine Rg.store_row_new rfl 160 _ _ rfl w1.heap.size rfl rfl 160 (cells zeros64) (cells S) rfl HI64.out HZ64.out (cells_one _) ?_) | (refine wpList_load_row rfl 129 _ rfl w.heap.size rfl 129 (cells H) (0, 0) _ (by exact (Rg.heap_alloc_past _ _ _ (by omega)).trans G0.out) Tryz.underlying129 rfl HI8.out ?_) | (refine Rg.store_row_new rfl 129 _ _ rfl (w1.heap.size + 1) (by simp) rfl 129 _ (cells H) rfl HI8.out HZ8.out (cells_one _) ?_))
    have hSL : S.length = 64 := by rw [← HS.out, spread_length]
    obtain ⟨tK, fK, hKrow⟩ := hT1.rounds
    have HK : Hid (∀ k, k < 64 → w1.cell? ⟨(1 : Nat), k, none⟩ = some (.int .u32 (n32 (rd KK k)))) := Lib.hid (fun k hk => by
      rw [cell_of_row w1 _ k _ _ _ hKrow]; exact cells_get KK k (by rw [KK_length]; exact hk))
    have hlt2 := hT1.lt2
    have hlt0 : 0 < w1.heap.size := Nat.lt_of_le_of_lt (Nat.zero_le _) hlt2
    clear hKrow
    go_loopw [14] (fun i wr => ∃ k : Nat, k ≤ 64 ∧ i = .int .i64 k ∧ ∃ n, wr = ((w1.alloc (.cells (cells S) 160)).alloc (.cells (cells (rnds H S k)) 129)).drewN n) (fun i _ => 64 - (intOf i).toNat)
    case atStart => exact ⟨0, by omega, rfl, 0, rfl⟩
    case round =>
      obtain ⟨k, hk, rfl, n, rfl⟩ := hrel
      have hVL : (rnds H S k).length = 8 := rnds_length H S hH k
      by_cases hlt : k < 64
      · obtain ⟨V, hV⟩ : ∃ V, V = rnds H S k := ⟨_, rfl⟩
        rw [← hV]
        rw [← hV] at hVL
        have HV := Lib.hid hV; clear hV
        have v0 := cells_get V 0 (by omega)
        have v1 := cells_get V 1 (by omega)
        have v2 := cells_get V 2 (by omega)
        have v3 := cells_get V 3 (by omega)
        have v4 := cells_get V 4 (by omega)
        have v5 := cells_get V 5 (by omega)
        have v6 := cells_get V 6 (by omega)
        have v7 := cells_get V 7 (by omega)
        have sk := cells_get S k (by omega)
        have kk := HK.out k hlt
        have q1 : (k : Int) < 64 := by omega
        have HVL := Lib.hid hVL; clear hVL
        go_wp2
        refine Rg.whole (fun w' => ∃ n, w' = ((w1.alloc (.cells (cells S) 160)).alloc (.cells (cells V) 129)).drewN n) (by kernel_rfl) (by kernel_rfl) ⟨n + 1, rfl⟩ ?_
        repeat (refine Rg.stepK rfl ?_; intro K hK; apply Exists.intro; refine ⟨?_, ?_⟩; (focus (intro w' hw'; obtain ⟨nq, rfl⟩ := hw'; go_simp; (first | (go_at_call 98; exact Calls.quiet_of_same ((big_any _ _ _ _ _ (by omega) (by omega) (by omega) (by omega) (by omega) (by omega)).mono fun _ _ h => ⟨h.1, h.2.symm⟩)) | ((try go_bits); (try go_simp); (try rfl))))); go_simp; refine hK _ ?_; clear hK K)
        refine wpQuiet_nil ?_; intro w' hw'; obtain ⟨nq, rfl⟩ := hw'
        go_wp2
        refine Rg.whole (fun w' => ∃ n, w' = ((w1.alloc (.cells (cells S) 160)).alloc (.cells (cells V) 129)).drewN n) (by kernel_rfl) (by kernel_rfl) ⟨nq + 1, rfl⟩ ?_
        repeat (refine Rg.stepK rfl ?_; intro K hK; apply Exists.intro; refine ⟨?_, ?_⟩; (focus (intro w' hw'; obtain ⟨nq, rfl⟩ := hw'; go_simp; (first | (go_at_call 98; exact Calls.quiet_of_same ((big_any _ _ _ _ _ (by omega) (by omega) (by omega) (by omega) (by omega) (by omega)).mono fun _ _ h => ⟨h.1, h.2.symm⟩)) | ((try go_bits); (try go_simp); (try rfl))))); go_simp; refine hK _ ?_; clear hK K)
        refine wpQuiet_nil ?_; intro w' hw'; obtain ⟨nq, rfl⟩ := hw'
        have hs8 : (cells V).size = (cells (rnd V S k)).size := by rw [cells_size, HVL.out]; rfl
        have HS8 := Lib.hid hs8; clear hs8
        go_wp2_with (refine Rg.store_row rfl 129 _ _ rfl (w1.heap.size + 1) rfl 129 (cells V) (cells (rnd V S k)) rfl (Rg.heap_alloc_at _ _ _ (by simp)) info8 HS8.out (cells_one _) ?_)
        go_roundw
        case rel => exact ⟨k + 1, by omega, by go_num, _, by rw [show rnds H S (k + 1) = rnd V S k from by rw [HV.out]; rfl, Rg.setRow_drewN, Rg.setRow_alloc_at _ _ _ _ _ (by simp)]⟩
        case measure => simp [intOf]; omega
      · obtain rfl : k = 64 := by omega
        rw [show ((64 : Nat) : Int) = 64 from rfl]
        obtain ⟨V, hV⟩ : ∃ V, V = rnds H S 64 := ⟨_, rfl⟩
        rw [← hV]
        rw [← hV] at hVL
        have HV := Lib.hid hV; clear hV
        clear hk hlt
        go_wp2
        have e1 : w1 = w1.setRow w.heap.size (cells (addw H V 0)) := (Rg.setRow_self G0.out).symm
        have E1 := Lib.hid e1; clear e1
        go_loopw [86] (fun i wr => ∃ k : Nat, k ≤ 8 ∧ i = .int .i64 k ∧ ∃ n, wr = (((w1.setRow w.heap.size (cells (addw H V k))).alloc (.cells (cells S) 160)).alloc (.cells (cells V) 129)).drewN n) (fun i _ => 8 - (intOf i).toNat)
        case atStart => exact ⟨0, by omega, rfl, n, by rw [← E1.out]⟩
        case round =>
          obtain ⟨k, hk, rfl, n, rfl⟩ := hrel
          by_cases hlt : k < 8
          · have hAL : (addw H V k).length = 8 := by rw [addw_length, hH]
            have a0 := cells_get (addw H V k) k (by omega)
            have v0 := cells_get V k (by omega)
            have c0 : (w1.setRow w.heap.size (cells (addw H V k))).cell? ⟨w.heap.size, k, none⟩ = some (.int .u32 (n32 (rd (addw H V k) k))) := by rw [cell_setRow_same _ _ _ _ _ _ _ G0.out, a0]
            have z0 : w.heap.size < w1.heap.size := by omega
            have f0 : (w1.setRow w.heap.size (cells (addw H V k))).frozen? ⟨w.heap.size, k, none⟩ = false := frozen_of_row _ _ _ _ _ (setRow_heap _ _ _ _ _ _ G0.out)
            have q1 : (k : Int) < 8 := by omega
            go_wp2
            refine Rg.tail (fun w' => ∃ n, w' = (((w1.setRow w.heap.size (cells (addw H V k))).alloc (.cells (cells S) 160)).alloc (.cells (cells V) 129)).drewN n) 8 (by kernel_rfl) (by kernel_rfl) ⟨n + 1, rfl⟩ ?_; simp only [List.take_succ_cons, List.take_zero, List.drop_succ_cons, List.drop_zero]
            repeat (refine Rg.stepK rfl ?_; intro K hK; apply Exists.intro; refine ⟨?_, ?_⟩; (focus (intro w' hw'; obtain ⟨nq, rfl⟩ := hw'; go_simp; (first | (fail) | ((try go_bits); (try go_simp); (try rfl))))); go_simp; refine hK _ ?_; clear hK K)
            refine wpQuiet_nil ?_; intro w' hw'; obtain ⟨nq, rfl⟩ := hw'
            go_wp2
            go_roundw
            case rel => exact ⟨k + 1, by omega, by go_num, nq, by rw [Rg.setCell_setRow G0.out, cells_set]; rfl⟩
            case measure => simp [intOf]; omega
          · obtain rfl : k = 8 := by omega
            have hAL : (addw H V 8).length = 8 := by rw [addw_length, hH]
            have hP : Hid (press H l = addw H V 8) := by rw [HV.out, ← HS.out]; exact Lib.hid rfl
            generalize hA : addw H V 8 = A at *
            have hiA : (Tryz.prog.info? 129).map (·.size) = some (cells A).size := by rw [cells_size, hAL]; exact info8
            have hzA : (#[Value.int .u32 0, .int .u32 0, .int .u32 0, .int .u32 0, .int .u32 0, .int .u32 0, .int .u32 0, .int .u32 0] : Array Value).size = (cells A).size := by rw [cells_size, hAL]; rfl
            have HIA := Lib.hid hiA; clear hiA
            have HZA := Lib.hid hzA; clear hzA
            have z0 : w.heap.size < w1.heap.size := by omega
            have z3 : w.heap.size < (w1.setRow w.heap.size (cells A)).heap.size := by simp; omega
            have z4 : w.heap.size + 1 < (w1.setRow w.heap.size (cells A)).heap.size := by simp; omega
            have GA : Hid ((w1.setRow w.heap.size (cells A)).heap[w.heap.size]? = some (.cells (cells A) 129 (0, 0))) := Lib.hid (setRow_heap _ _ _ _ _ _ G0.out)
            have GB : Hid ((w1.setRow w.heap.size (cells A)).heap[w.heap.size + 1]? = some (.cells _ 129 (0, 0))) := Lib.hid ((setRow_other _ _ _ _ (by omega)).trans G1.out)
            go_wp2_with (first | (refine wpList_load_row rfl 129 _ rfl w.heap.size rfl 129 (cells A) (0, 0) _ (by exact ((Rg.heap_alloc_past _ _ _ (by rw [World.size_alloc]; omega)).trans ((Rg.heap_alloc_past _ _ _ z3).trans GA.out))) Tryz.underlying129 rfl HIA.out ?_) | (refine Rg.store_row rfl 129 _ _ rfl (w.heap.size + 1) rfl 129 _ (cells A) rfl (by exact ((Rg.heap_alloc_past _ _ _ (by rw [World.size_alloc]; omega)).trans ((Rg.heap_alloc_past _ _ _ z4).trans GB.out))) HIA.out HZA.out (cells_one _) ?_))
            refine bodyPost_ret (v := .agg (cells A)) (results_cell_row (P := Tryz.prog) rfl _ _ (w.heap.size + 1) 129 (cells A) (0, 0) _ rfl (setRow_heap _ _ _ _ 129 _ ((Rg.heap_alloc_past _ _ _ (by rw [World.size_alloc]; omega)).trans ((Rg.heap_alloc_past _ _ _ z4).trans GB.out))) Tryz.underlying129 rfl HIA.out) rfl ⟨by rw [hP.out], ?_⟩
            exact Rg.below_setRow (Rg.below_drewN (((Rg.below_setRow hBw (Nat.le_refl _) _).alloc (by omega) _).alloc (by simp; omega) _) _) (by omega) _
end Sha
end Go.Proofs.YtmonkggoilhngaaGreatDoor
