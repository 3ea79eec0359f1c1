/- The walks of custumalref03.Eight and Key, hmac.Key. -/
import Derived.Test.YtkembhonfehlbaaDoorMacR
import Derived.Test.YtkembhonfehlbaaDoorEqA
namespace Go.Proofs.YtkembhonfehlbaaDoor
open Go.RowKit Bits Mem Sha
namespace Ref
/-- A number as eight bytes, the highest first. -/
def u64 (n : Int) : Nat := (n % 18446744073709551616).toNat
def eight (n : Int) : List UInt8 := be (u64 n) 8
theorem u64_wrap (n : Int) : IntKind.u64.wrap n = (u64 n : Int) := by rw [IntKind.wrap_u64]; unfold u64; omega
theorem eight_length (n : Int) : (eight n).length = 8 := be_length _ _
theorem byte_at (u j : Nat) (hj : j < 8) : (u : Int) / 2 ^ (56 - 8 * j) % 256 = ((UInt8.ofNat (u / 2 ^ (8 * (7 - j)))).toNat : Int) := by
  rw [UInt8.toNat_ofNat', show 8 * (7 - j) = 56 - 8 * j from by omega]; simp
set_option maxRecDepth 100000 in
set_option maxHeartbeats 1000000 in
theorem eight_any (n : Int) (w : World) :
    Calls Tryd.prog 48 #[.int .i64 n] w fun e w' => e = .returned (.string ⟨(eight n).toArray⟩) ∧ Below w.heap.size w w' := by
  have hwu := u64_wrap n
  obtain ⟨u, hu⟩ : ∃ u, u = u64 n := ⟨_, rfl⟩
  rw [← hu] at hwu
  have HU := Lib.hid hu
  clear hu
  go_enter Tryd.func48, Tryd.ntmps48
  go_wp2_with fail
  go_loopw [3, 4] (fun v i wr => ∃ j : Nat, j ≤ 8 ∧ i = .int .i64 (56 - 8 * (j : Int)) ∧ v = .string ⟨(be u j).toArray⟩ ∧ Below w.heap.size w wr) (fun _ i _ => (intOf i + 8).toNat)
  case atStart => exact ⟨0, by omega, rfl, rfl, Below.refl _ _⟩
  case round =>
    obtain ⟨j, hj, rfl, rfl, hb⟩ := hrel
    have hszw := hb.size
    by_cases hlt : j < 8
    · have hge : (0 : Int) ≤ 56 - 8 * (j : Int) := by omega
      have hb8 := byte_at u j hlt
      have HS := Lib.hid (be_succ u j)
      obtain ⟨x, hx⟩ : ∃ x, x = UInt8.ofNat (u / 2 ^ (8 * (7 - j))) := ⟨_, rfl⟩
      rw [← hx] at hb8 HS
      have hc : ¬ (9223372036854775807 < (be u j).length + 1) := by rw [be_length]; omega
      have HR : Hid (∀ w1 : World, Rd (w1.alloc (.cells #[.int .u8 (x.toNat : Int)] 5)) 1 (.slice (some ⟨w1.heap.size, 0, none⟩) 1 1) 1 (bys [x])) := Lib.hid (fun w1 => Rd_lit w1 #[.int .u8 (x.toNat : Int)] 5 1 1 rfl (by decide))
      clear hx
      go_wp2_with (refine conv_str rfl 23 9 _ rfl 5 Tryd.underlying9 Tryd.underlying23 Tryd.underlying5 _ 1 [x] rfl (HR.out wr) ?_)
      refine ⟨⟨j + 1, by omega, by congr 1; omega, by rw [HS.out], hb.alloc hszw _⟩, by simp [intOf]; omega⟩
    · obtain rfl : j = 8 := by omega
      rw [show (56 - 8 * ((8 : Nat) : Int)) = -8 from rfl]
      go_wp2_with fail
      go_ret
      exact ⟨by unfold eight; rw [← HU.out]; first | done | rfl, hb⟩
def e8 (u j : Nat) : List UInt8 := be u j ++ List.replicate (8 - j) 0
theorem e8_length (u j : Nat) (h : j ≤ 8) : (e8 u j).length = 8 := by unfold e8; rw [List.length_append, be_length, List.length_replicate]; omega
theorem e8_zero (u : Nat) : e8 u 0 = List.replicate 8 0 := rfl
theorem e8_full (u : Nat) : e8 u 8 = be u 8 := by simp [e8]
theorem e8_set (u j : Nat) (h : j < 8) : (e8 u j).set j (UInt8.ofNat (u / 2 ^ (8 * (7 - j)))) = e8 u (j + 1) := by
  unfold e8
  rw [List.set_append_right _ _ (by rw [be_length]; exact Nat.le_refl _), be_length, Nat.sub_self, be_succ, List.append_assoc, show 8 - j = (8 - (j + 1)) + 1 by omega, List.replicate_succ, List.set_cons_zero]
  rfl
theorem Parts.lit3 (w : World) (a b c : List UInt8) (x y z : Value) (hx : ∃ q c, x = .slice q a.length c ∧ Rd w 1 (.slice q a.length c) a.length (bys a)) (hy : ∃ q c, y = .slice q b.length c ∧ Rd w 1 (.slice q b.length c) b.length (bys b)) (hz : ∃ q k, z = .slice q c.length k ∧ Rd w 1 (.slice q c.length k) c.length (bys c)) :
    Parts (w.alloc (.cells #[x, y, z] 23)) (.slice (some ⟨w.heap.size, 0, none⟩) 3 3) [a, b, c] := by
  have hb : Below w.heap.size w (w.alloc (.cells #[x, y, z] 23)) := (Below.refl _ _).alloc (Nat.le_refl _) _
  refine ⟨[x, y, z], Rd_lit w #[x, y, z] 23 1 3 rfl (by decide), fun i hi => ?_⟩
  obtain ⟨q, k, rfl, hx⟩ := hx
  obtain ⟨q', k', rfl, hy⟩ := hy
  obtain ⟨q2, k2, rfl, hz⟩ := hz
  match i, hi with
  | 0, _ => exact ⟨q, k, rfl, hx.below hb⟩
  | 1, _ => exact ⟨q', k', rfl, hy.below hb⟩
  | 2, _ => exact ⟨q2, k2, rfl, hz.below hb⟩
end Ref
end Go.Proofs.YtkembhonfehlbaaDoor
