/- Plain laws of the reference's words. -/
import Derived.Test.YtmonkggoilhngaaGreatDoorRefA
import Derived.Test.YtmonkggoilhngaaGreatDoorGShaD
import Derived.Test.YtmonkggoilhngaaGreatDoorOw
namespace Go.Proofs.YtmonkggoilhngaaGreatDoor
open Go.RowKit Bits Mem Sha
namespace Ref
/-- Words as ints. -/
def cI (A : List (BitVec 32)) : Array Value := (A.map fun x => Value.int .i64 (n32 x)).toArray
theorem cI_get (A : List (BitVec 32)) (j : Nat) (h : j < A.length) : (cI A)[j]? = some (.int .i64 (n32 (rd A j))) := by
  simp [cI, rd, List.getD, h]
theorem cI_set (A : List (BitVec 32)) (j : Nat) (x : BitVec 32) : (cI A).setIfInBounds j (.int .i64 (n32 x)) = cI (A.set j x) := by
  simp [cI, List.map_set]
theorem cI_size (A : List (BitVec 32)) : (cI A).size = A.length := by simp [cI]
theorem cI_one (A : List (BitVec 32)) : (cI A).all (·.oneCell') = true := by
  rw [Array.all_eq_true_iff_forall_mem]; intro v hv; simp [cI] at hv; obtain ⟨x, _, rfl⟩ := hv; rfl
theorem sum4 (a b c d : BitVec 32) : bits .and .i64 (n32 a + n32 b + n32 c + n32 d) (4294967295 : Int) = n32 (a + b + c + d) := by
  have h1 := a.isLt; have h2 := b.isLt; have h3 := c.isLt; have h4 := d.isLt
  have e : n32 a + n32 b + n32 c + n32 d = ((a.toNat + b.toNat + c.toNat + d.toNat : Nat) : Int) := by unfold n32; omega
  rw [e]; refine mask_n _ _ (by omega) ?_
  apply BitVec.eq_of_toNat_eq; simp only [BitVec.toNat_add, BitVec.toNat_ofNat]; omega
theorem sum2 (a b : BitVec 32) : bits .and .i64 (n32 a + n32 b) (4294967295 : Int) = n32 (a + b) := by
  have h1 := a.isLt; have h2 := b.isLt
  have e : n32 a + n32 b = ((a.toNat + b.toNat : Nat) : Int) := by unfold n32; omega
  rw [e]; refine mask_n _ _ (by omega) ?_
  apply BitVec.eq_of_toNat_eq; simp only [BitVec.toNat_add, BitVec.toNat_ofNat]; try omega
theorem sum7 (a b c d e f g : BitVec 32) : bits .and .i64 (n32 a + n32 b + n32 c + n32 d + n32 e + (n32 f + n32 g)) (4294967295 : Int) = n32 (a + b + c + d + e + (f + g)) := by
  have h1 := a.isLt; have h2 := b.isLt; have h3 := c.isLt; have h4 := d.isLt; have h5 := e.isLt; have h6 := f.isLt; have h7 := g.isLt
  have e : n32 a + n32 b + n32 c + n32 d + n32 e + (n32 f + n32 g) = ((a.toNat + b.toNat + c.toNat + d.toNat + e.toNat + (f.toNat + g.toNat) : Nat) : Int) := by unfold n32; omega
  rw [e]; refine mask_n _ _ (by omega) ?_
  apply BitVec.eq_of_toNat_eq; simp only [BitVec.toNat_add, BitVec.toNat_ofNat]; omega
theorem sum6 (h a b c d e : BitVec 32) : bits .and .i64 (n32 h + (n32 a + n32 b + n32 c + n32 d + n32 e)) (4294967295 : Int) = n32 (h + (a + b + c + d + e)) := by
  have h0 := h.isLt; have h1 := a.isLt; have h2 := b.isLt; have h3 := c.isLt; have h4 := d.isLt; have h5 := e.isLt
  have e : n32 h + (n32 a + n32 b + n32 c + n32 d + n32 e) = ((h.toNat + (a.toNat + b.toNat + c.toNat + d.toNat + e.toNat) : Nat) : Int) := by unfold n32; omega
  rw [e]; refine mask_n _ _ (by omega) ?_
  apply BitVec.eq_of_toNat_eq; simp only [BitVec.toNat_add, BitVec.toNat_ofNat]; omega
theorem word4_nat (a b c d : Nat) (h1 : a < 256) (h2 : b < 256) (h3 : c < 256) (h4 : d < 256) :
    bits .or .i64 (bits .or .i64 (bits .or .i64 ((a : Int) * 16777216) ((b : Int) * 65536)) ((c : Int) * 256)) (d : Int) = (((a * 16777216 ||| b * 65536) ||| c * 256) ||| d : Nat) := by
  have l1 : a * 16777216 < 4294967296 := Nat.mul_lt_mul_of_pos_right h1 (by decide : 0 < 16777216)
  have l2 : b * 65536 < 4294967296 := Nat.lt_trans (Nat.mul_lt_mul_of_pos_right h2 (by decide : 0 < 65536)) (by decide)
  have l3 : c * 256 < 4294967296 := Nat.lt_trans (Nat.mul_lt_mul_of_pos_right h3 (by decide : 0 < 256)) (by decide)
  have l4 : d < 4294967296 := Nat.lt_trans h4 (by decide)
  have tr : ∀ x : Nat, x < 4294967296 → x < 9223372036854775808 := fun x hx => Nat.lt_trans hx (by decide)
  have o1 : a * 16777216 ||| b * 65536 < 4294967296 := Nat.or_lt_two_pow (n := 32) l1 l2
  have o2 : (a * 16777216 ||| b * 65536) ||| c * 256 < 4294967296 := Nat.or_lt_two_pow (n := 32) o1 l3
  have e1 : (a : Int) * 16777216 = ((a * 16777216 : Nat) : Int) := rfl
  have e2 : (b : Int) * 65536 = ((b * 65536 : Nat) : Int) := rfl
  have e3 : (c : Int) * 256 = ((c * 256 : Nat) : Int) := rfl
  rw [e1, e2, e3, i64_or _ _ (tr _ l1) (tr _ l2), i64_or _ _ (tr _ o1) (tr _ l3), i64_or _ _ (tr _ o2) (tr _ l4)]
theorem w4_nat (a b c d : Nat) (h1 : a < 256) (h2 : b < 256) (h3 : c < 256) (h4 : d < 256) :
    (BitVec.ofNat 32 a <<< 24 ||| BitVec.ofNat 32 b <<< 16 ||| BitVec.ofNat 32 c <<< 8 ||| BitVec.ofNat 32 d).toNat = ((a * 16777216 ||| b * 65536) ||| c * 256) ||| d := by
  have p1 : (BitVec.ofNat 32 a <<< 24).toNat = a * 16777216 := by
    simp only [BitVec.toNat_shiftLeft, BitVec.toNat_ofNat, Nat.shiftLeft_eq]; omega
  have p2 : (BitVec.ofNat 32 b <<< 16).toNat = b * 65536 := by
    simp only [BitVec.toNat_shiftLeft, BitVec.toNat_ofNat, Nat.shiftLeft_eq]; omega
  have p3 : (BitVec.ofNat 32 c <<< 8).toNat = c * 256 := by
    simp only [BitVec.toNat_shiftLeft, BitVec.toNat_ofNat, Nat.shiftLeft_eq]; omega
  have p4 : (BitVec.ofNat 32 d).toNat = d := by
    simp only [BitVec.toNat_ofNat]; omega
  rw [BitVec.toNat_or, BitVec.toNat_or, BitVec.toNat_or, p1, p2, p3, p4]
theorem word4 (a b c d : UInt8) : bits .or .i64 (bits .or .i64 (bits .or .i64 ((a.toNat : Int) * 16777216) ((b.toNat : Int) * 65536)) ((c.toNat : Int) * 256)) (d.toNat : Int) = n32 (w4 a b c d) := by
  rw [word4_nat _ _ _ _ a.toNat_lt b.toNat_lt c.toNat_lt d.toNat_lt]
  unfold n32 w4 by32
  rw [w4_nat _ _ _ _ a.toNat_lt b.toNat_lt c.toNat_lt d.toNat_lt]
theorem bt_take (l : List UInt8) (j : Nat) (h : j < 64) : bt (l.take 64) j = bt l j := by
  unfold bt; simp [List.getD, h]
theorem four_word (a b c d : BitVec 32) : (((0#32 <<< 8 ||| a) <<< 8 ||| b) <<< 8 ||| c) <<< 8 ||| d = a <<< 24 ||| b <<< 16 ||| c <<< 8 ||| d := by
  simp [BitVec.shiftLeft_or_distrib, ← BitVec.shiftLeft_add]
theorem rd_set_same (A : List (BitVec 32)) (i : Nat) (x : BitVec 32) (h : i < A.length) : rd (A.set i x) i = x := by
  unfold rd; simp [List.getD, h]
theorem rd_set_other (A : List (BitVec 32)) (i j : Nat) (x : BitVec 32) (h : i ≠ j) : rd (A.set i x) j = rd A j := by
  unfold rd; simp [List.getD, h]
theorem refw_zero (l : List UInt8) (i : Nat) (h : i ≤ 16) (j : Nat) (hj : i ≤ j) : rd (refw l i) j = 0#32 := by
  induction i with
  | zero => unfold refw rd; simp only [List.getD_eq_getElem?_getD, List.getElem?_replicate]; split <;> rfl
  | succ i ih => rw [refw, if_pos (by omega), rd_set_other _ _ _ _ (by omega)]; exact ih (by omega) (by omega)
theorem spread1_four (l : List UInt8) (i : Nat) (h : i ≤ 16) : spread1 (l.take 64) (4 * i) = refw l i := by
  induction i with
  | zero => rfl
  | succ i ih =>
    have e := ih (by omega)
    have hz := refw_zero l i (by omega) i (Nat.le_refl _)
    have hL : i < (refw l i).length := by rw [refw_length]; omega
    rw [refw, if_pos (by omega), show 4 * (i + 1) = 4 * i + 1 + 1 + 1 + 1 from by omega, spread1, spread1, spread1, spread1, e,
      show (4 * i) / 4 = i from by omega, show (4 * i + 1) / 4 = i from by omega, show (4 * i + 1 + 1) / 4 = i from by omega, show (4 * i + 1 + 1 + 1) / 4 = i from by omega, hz]
    simp only [List.set_set, rd_set_same _ _ _ hL]
    rw [four_word, bt_take _ _ (by omega), bt_take _ _ (by omega), bt_take _ _ (by omega), bt_take _ _ (by omega)]
    rfl
theorem refw_spread2 (l : List UInt8) (i : Nat) : refw l (16 + i) = spread2 (refw l 16) i := by
  induction i with
  | zero => rfl
  | succ i ih => rw [show 16 + (i + 1) = (16 + i) + 1 from rfl, refw, if_neg (by omega), Nat.add_sub_cancel_left, ih]; rfl
theorem refw_spread (l : List UInt8) : refw l 64 = spread (l.take 64) := by
  rw [spread, spread1_four l 16 (by omega), ← refw_spread2]
theorem pressN_refw (k : Nat) (H : List (BitVec 32)) (P : List UInt8) (_h : 64 * k + 64 ≤ P.length) :
    pressN (k + 1) H P = addw (pressN k H P) (rnds (pressN k H P) (refw (P.drop (64 * k)) 64) 64) 8 := by
  rw [refw_spread, pressN_succ]; rfl
theorem Rd_setRow {w : World} {b off n c : Nat} {xs : List Value} (G : Nat) (cs : Array Value) (h : Rd w 1 (.slice (some ⟨b, off, none⟩) n c) n xs) (hne : b ≠ G) :
    Rd (w.setRow G cs) 1 (.slice (some ⟨b, off, none⟩) n c) n xs := by
  obtain ⟨hl, h⟩ := h
  refine ⟨hl, ?_⟩
  rcases h with h | ⟨b', off', cap, hv, hb, h1, h2, h3⟩
  · exact .inl h
  · cases hv
    exact .inr ⟨b, off, c, rfl, by simpa using hb, h1, h2, fun j u hj => by rw [cell_setRow_other _ _ _ _ hne]; exact h3 j u hj⟩
end Ref
end Go.Proofs.YtmonkggoilhngaaGreatDoor
