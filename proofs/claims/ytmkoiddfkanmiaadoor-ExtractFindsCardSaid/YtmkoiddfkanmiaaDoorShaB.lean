/- Walks of sha2.small, big, spread. -/
import Derived.Test.YtmkoiddfkanmiaaDoorShaA
import Derived.Test.YtmkoiddfkanmiaaDoorShaSpec
import Derived.Test.YtmkoiddfkanmiaaDoorRegion
import Derived.Deep.Draws
import Derived.Lib.Hide
import Derived.Deep.LoopGhost
import Derived.Deep.DeepFit
import Derived.KernelRfl
namespace Go.Proofs.YtmkoiddfkanmiaaDoor
open Go.RowKit Bits
namespace Sha
set_option maxRecDepth 100000 in
set_option maxHeartbeats 400000 in
theorem big_any (x : BitVec 32) (p q r : Int) (w : World) (hp : 0 < p) (hp' : p < 32) (hq : 0 < q) (hq' : q < 32) (hr : 0 < r) (hr' : r < 32) :
    Calls Tryd.prog 69 #[.int .u32 (n32 x), .int .i64 p, .int .i64 q, .int .i64 r] w fun e w' => e = .returned (.int .u32 (n32 (bg x p.toNat q.toNat r.toNat))) ∧ w = w' := by
  obtain ⟨p, rfl⟩ := Int.eq_ofNat_of_zero_le (Int.le_of_lt hp)
  obtain ⟨q, rfl⟩ := Int.eq_ofNat_of_zero_le (Int.le_of_lt hq)
  obtain ⟨r, rfl⟩ := Int.eq_ofNat_of_zero_le (Int.le_of_lt hr)
  simp only [Int.toNat_natCast]
  go_enter Tryd.func69, Tryd.ntmps69
  go_wp2_with (go_at_call 78; refine (turn_any _ _ _ (by omega) (by omega)).mono ?_; rintro e w' ⟨rfl, rfl⟩)
  go_ret
  exact ⟨rfl, rfl⟩
set_option maxRecDepth 100000 in
set_option maxHeartbeats 400000 in
theorem small_any (x : BitVec 32) (p q r : Int) (w : World) (hp : 0 < p) (hp' : p < 32) (hq : 0 < q) (hq' : q < 32) (hr : 0 < r) (hr' : r < 32) :
    Calls Tryd.prog 77 #[.int .u32 (n32 x), .int .i64 p, .int .i64 q, .int .i64 r] w fun e w' => e = .returned (.int .u32 (n32 (sml x p.toNat q.toNat r.toNat))) ∧ ∃ m, w' = w.drewN m := by
  obtain ⟨p, rfl⟩ := Int.eq_ofNat_of_zero_le (Int.le_of_lt hp)
  obtain ⟨q, rfl⟩ := Int.eq_ofNat_of_zero_le (Int.le_of_lt hq)
  obtain ⟨r, rfl⟩ := Int.eq_ofNat_of_zero_le (Int.le_of_lt hr)
  simp only [Int.toNat_natCast]
  go_enter Tryd.func77, Tryd.ntmps77
  go_wp2_with fail
  go_quiet ((go_at_call 78; exact Calls.quiet_of_same ((turn_any _ _ _ (by omega) (by omega)).mono fun _ _ h => ⟨h.1, h.2.symm⟩)))
  go_wp2
  go_ret
  exact ⟨rfl, _, rfl⟩
/-- Words as cells. -/
def cells (A : List (BitVec 32)) : Array Value := (A.map fun x => Value.int .u32 (n32 x)).toArray
theorem cells_get (A : List (BitVec 32)) (j : Nat) (h : j < A.length) : (cells A)[j]? = some (.int .u32 (n32 (rd A j))) := by
  simp [cells, rd, List.getD, h]
theorem cells_size (A : List (BitVec 32)) : (cells A).size = A.length := by simp [cells]
theorem cells_one (A : List (BitVec 32)) : (cells A).all (·.oneCell') = true := by
  rw [Array.all_eq_true_iff_forall_mem]; intro v hv; simp [cells] at hv; obtain ⟨x, _, rfl⟩ := hv; rfl
theorem cells_set (A : List (BitVec 32)) (j : Nat) (x : BitVec 32) : (cells A).setIfInBounds j (.int .u32 (n32 x)) = cells (A.set j x) := by
  simp [cells, List.map_set]
@[go_sem] theorem by32_wrap (b : UInt8) : IntKind.u32.wrap (b.toNat : Int) = n32 (by32 b) := by
  have := b.toNat_lt
  rw [IntKind.wrap_u32']; unfold n32 by32; rw [BitVec.toNat_ofNat]; omega
@[go_sem] theorem by32_mod (b : UInt8) : (b.toNat : Int) % 4294967296 = n32 (by32 b) := by
  have := by32_wrap b; rw [IntKind.wrap_u32'] at this; exact this
def zeros64 : List (BitVec 32) := List.replicate 64 0
theorem cells_zero : cells zeros64 = Array.replicate 64 (.int .u32 0) := by kernel_rfl
theorem info64 : (Tryd.prog.info? 149).map (·.size) = some 64 := by kernel_rfl
set_option maxRecDepth 100000 in
set_option maxHeartbeats 400000 in
set_option maxRecDepth 100000 in
theorem spread_any (l : List UInt8) (b off len cap : Nat) (w : World) (hl : 64 ≤ l.length) (hlen : l.length = len) (hcap : len ≤ cap) (hm : cap ≤ 9223372036854775807)
    (hc : ∀ k, k < len → w.cell? ⟨b, off + k, none⟩ = some (.int .u8 ((bt l k).toNat : Int))) :
    Calls Tryd.prog 68 #[.slice (some ⟨b, off, none⟩) len cap] w fun e w' => e = .returned (.agg (cells (spread l))) ∧ Below w.heap.size w w' := by
  have h64 : 64 ≤ len := by omega
  have h64' : 64 ≤ cap := by omega
  have H1 := Lib.hid hlen; clear hlen
  have H2 := Lib.hid hc; clear hc
  go_enter Tryd.func68, Tryd.ntmps68
  go_wp2
  go_loopw [9] (fun i wr => ∃ k : Nat, k ≤ 64 ∧ i = .int .i64 k ∧ ∃ n, wr = ((w.alloc (.cells (cells zeros64) 149)).alloc (.cells (cells (spread1 l k)) 149)).drewN n) (fun i _ => 64 - (intOf i).toNat)
  case atStart => exact ⟨0, by omega, rfl, 0, by rw [show spread1 l 0 = zeros64 from rfl, cells_zero]; rfl⟩
  case round =>
    obtain ⟨k, hk, rfl, n, rfl⟩ := hrel
    by_cases hlt : k < 64
    · have hcell := H2.out k (by omega)
      have hrd := cells_get (spread1 l k) (k / 4) (by rw [spread1_length]; omega)
      have hb : b < w.heap.size := World.block_lt_of_cell? _ _ hcell
      go_wp2
      have q1 : (0 : Int) ≤ (k : Int) / 4 := by omega
      have q2 : (k : Int) / 4 < 64 := by omega
      have q3 : (k : Int) < (len : Int) := by omega
      have q4 : ((k : Int) / 4).toNat = k / 4 := by omega
      have q5 : k / 4 < 64 := by omega
      refine Rg.tail (fun w' => ∃ n, w' = ((w.alloc (.cells (cells zeros64) 149)).alloc (.cells (cells (spread1 l k)) 149)).drewN n) 14 (by kernel_rfl) (by kernel_rfl) ⟨n + 1, rfl⟩ ?_; simp only [List.take_succ_cons, List.take_zero, List.drop_succ_cons, List.drop_zero]
      repeat (refine Rg.stepK rfl ?_; intro K hK; apply Exists.intro; refine ⟨?_, ?_⟩; (focus (intro w' hw'; obtain ⟨nq, rfl⟩ := hw'; go_simp; (first | (fail) | ((try go_bits); (try go_simp); (try rfl))))); go_simp; refine hK _ ?_; clear hK K)
      refine wpQuiet_nil ?_; intro w' hw'; obtain ⟨nq, rfl⟩ := hw'
      go_wp2
      go_roundw
      case rel => exact ⟨k + 1, by omega, by go_num, nq, by simp only [spread1]; rw [← cells_set]⟩
      case measure => simp [intOf]; omega
    · obtain rfl : k = 64 := by omega
      rw [show ((64 : Nat) : Int) = 64 from rfl]
      go_wp2
      obtain ⟨A0, hA0⟩ : ∃ A, A = spread1 l 64 := ⟨_, rfl⟩
      have hL0 : A0.length = 64 := by rw [hA0, spread1_length]
      have HA := Lib.hid hA0
      rw [← hA0]
      clear hA0
      go_loopw [5] (fun i wr => ∃ k : Nat, k ≤ 48 ∧ i = .int .i64 (16 + k) ∧ ∃ n, wr = ((w.alloc (.cells (cells zeros64) 149)).alloc (.cells (cells (spread2 A0 k)) 149)).drewN n) (fun i _ => 64 - (intOf i).toNat)
      case atStart => exact ⟨0, by omega, rfl, n, rfl⟩
      case round =>
        obtain ⟨k, hk, rfl, n, rfl⟩ := hrel
        by_cases hlt : k < 48
        · have hL : (spread2 A0 k).length = 64 := by rw [spread2_length]; exact hL0
          have hrd1 := cells_get (spread2 A0 k) k (by omega)
          have hrd2 := cells_get (spread2 A0 k) (k + 1) (by omega)
          have hrd3 := cells_get (spread2 A0 k) (k + 9) (by omega)
          have hrd4 := cells_get (spread2 A0 k) (k + 14) (by omega)
          have hrd5 := cells_get (spread2 A0 k) (16 + k) (by omega)
          have e1 : IntKind.i64.wrap (16 + (k : Int) - 16) = (k : Int) := by rw [IntWalk.i64_in _ (by omega)]; omega
          have e2 : IntKind.i64.wrap (16 + (k : Int) - 15) = (k : Int) + 1 := by rw [IntWalk.i64_in _ (by omega)]; omega
          have e3 : IntKind.i64.wrap (16 + (k : Int) - 7) = (k : Int) + 9 := by rw [IntWalk.i64_in _ (by omega)]; omega
          have e4 : IntKind.i64.wrap (16 + (k : Int) - 2) = (k : Int) + 14 := by rw [IntWalk.i64_in _ (by omega)]; omega
          have f1 : (k : Int) < 64 ∧ (k : Int) + 1 < 64 ∧ (k : Int) + 9 < 64 ∧ (k : Int) + 14 < 64 := by omega
          have f2 : (0 : Int) ≤ (k : Int) + 1 ∧ (0 : Int) ≤ (k : Int) + 9 ∧ (0 : Int) ≤ (k : Int) + 14 := by omega
          have f3 : ((k : Int) + 1).toNat = k + 1 ∧ ((k : Int) + 9).toNat = k + 9 ∧ ((k : Int) + 14).toNat = k + 14 := by omega
          have f5 : (0 : Int) ≤ 16 + (k : Int) := by omega
          have f6 : (16 + (k : Int)).toNat = 16 + k := by omega
          go_wp2
          refine Rg.tail (fun w' => ∃ n, w' = ((w.alloc (.cells (cells zeros64) 149)).alloc (.cells (cells (spread2 A0 k)) 149)).drewN n) 23 (by kernel_rfl) (by kernel_rfl) ⟨n + 1, rfl⟩ ?_; simp only [List.take_succ_cons, List.take_zero, List.drop_succ_cons, List.drop_zero]
          repeat (refine Rg.stepK rfl ?_; intro K hK; apply Exists.intro; refine ⟨?_, ?_⟩; (focus (intro w' hw'; obtain ⟨nq, rfl⟩ := hw'; go_simp; (first | (go_at_call 77; exact Calls.quiet_of (small_any _ _ _ _ _ (by omega) (by omega) (by omega) (by omega) (by omega) (by omega))) | ((try go_bits); (try go_simp); (try rfl))))); go_simp; refine hK _ ?_; clear hK K)
          refine wpQuiet_nil ?_; intro w' hw'; obtain ⟨nq, rfl⟩ := hw'
          go_wp2
          go_roundw
          case rel => exact ⟨k + 1, by omega, by go_num, nq, by simp only [spread2, next1]; rw [← cells_set]⟩
          case measure => simp [intOf]; omega
        · obtain rfl : k = 48 := by omega
          have hL : (spread2 A0 48).length = 64 := by rw [spread2_length]; exact hL0
          have hi : (Tryd.prog.info? 149).map (·.size) = some (cells (spread2 A0 48)).size := by rw [cells_size, hL]; exact info64
          have hz : (cells zeros64).size = (cells (spread2 A0 48)).size := by rw [cells_size, cells_size, hL]; rfl
          have HF : Hid (spread l = spread2 A0 48) := by rw [HA.out]; exact Lib.hid rfl
          have H3 := Lib.hid hi; clear hi
          have H4 := Lib.hid hz; clear hz
          generalize hB : spread2 A0 48 = B at *
          clear hB hL
          go_wp2_with (first | (refine wpList_load_row rfl 149 _ rfl (w.heap.size + 1) rfl 149 (cells B) (0, 0) _ (by exact Rg.heap_alloc_at _ _ _ (by simp)) Tryd.underlying149 rfl H3.out ?_) | (refine Rg.store_row rfl 149 _ _ rfl w.heap.size rfl 149 (cells zeros64) (cells B) rfl (by exact (Rg.heap_alloc_past _ _ _ (by simp)).trans (Rg.heap_alloc_at _ _ _ rfl)) H3.out H4.out (cells_one _) ?_))
          refine bodyPost_ret (v := .agg (cells B)) (results_cell_row (P := Tryd.prog) rfl _ _ w.heap.size 149 (cells B) (0, 0) _ rfl (setRow_heap _ _ (cells zeros64) _ 149 _ ((Rg.heap_alloc_past _ _ _ (by simp)).trans (Rg.heap_alloc_at _ _ _ rfl))) Tryd.underlying149 rfl H3.out) rfl ⟨by rw [HF.out], ?_⟩
          exact Rg.below_setRow (Rg.below_drewN (((Below.refl _ _).alloc (Nat.le_refl _) _).alloc (by simp) _) _) (Nat.le_refl _) _
end Sha
end Go.Proofs.YtmkoiddfkanmiaaDoor
