/- The walk of commit.pad. -/
import Derived.Test.YtkembhonfehlbaaDoorCommitM
namespace Go.Proofs.YtkembhonfehlbaaDoor
open Go.RowKit Bits Mem Sha
namespace Ref
set_option maxRecDepth 100000 in
set_option maxHeartbeats 4000000 in
theorem pad17_any (l : List UInt8) (b : UInt8) (w0 : World) (hl : l.length = 32) :
    Calls Tryd.prog 49 #[.agg (bysA l), .int .u8 (b.toNat : Int)] w0 fun e w' => ∃ g, e = .returned (.slice (some ⟨g, 0, none⟩) 64 64) ∧ w0.heap.size ≤ g ∧ w'.heap[g]? = some (.cells (bysA (padk l b)) 5 (0, 0)) ∧ Below w0.heap.size w0 w' := by
  obtain ⟨i0, hi, hz0, hz1, hz2⟩ := parts3 info1
  have h64 : l.length ≤ 64 := by omega
  obtain ⟨w, hw⟩ : ∃ w, w = w0.alloc (.cells (bysA l) 22) := ⟨_, rfl⟩
  have hb0 : Below w0.heap.size w0 w := by rw [hw]; exact (Below.refl _ _).alloc (Nat.le_refl _) _
  have HB0 := Lib.hid hb0
  have HLL := Lib.hid hl
  have hr0 : w.heap[w0.heap.size]? = some (.cells (bysA l) 22 (0, 0)) := by rw [hw]; exact Rg.heap_alloc_at _ _ _ rfl
  have HL := Lib.hid (Rd_of_row hr0 rfl (by unfold maxLen; omega))
  have HWE := Lib.hid hw
  clear hl hr0 hb0 hw
  go_enter Tryd.func49, Tryd.ntmps49
  go_wp2_with (rw [← HWE.out]; refine wpList_make_full _ rfl _ _ 23 rfl w.heap.size 5 i0 (.int .u8 0) 1 Tryd.underlying23 hi hz0 hz1 .i64 .i64 _ _ 64 rfl rfl rfl rfl (by rw [hz2]; omega) (by unfold maxLen; omega) (Nat.le_refl _) ?_; go_must (intro w1 hown hg1))
  have hrow1 := own_row hown
  rw [made_bys] at hrow1
  have hb1 : Below w.heap.size w w1 := below_of_grown hg1 (Nat.le_refl _) (fun k hk => by cases hk)
  have hl1 := HL.out.below hb1
  have HR1 := Lib.hid hrow1
  clear hown hg1 hrow1
  have hrun := run_copy_in (P := Tryd.prog) 23 3 5 Tryd.underlying23 infoU8 w.heap.size 64 64 (some ⟨w0.heap.size, 0, none⟩) l.length l.length l (bys (List.replicate 64 0)) 5 HR1.out hl1 h64 (by rw [bys_length, List.length_replicate]; omega)
  rw [fill_row] at hrun
  rw [HLL.out] at hrun
  rw [hrun]
  go_wp2_with fail
  clear hrun
  have HB2 : Hid (Below w.heap.size w (w1.setRow w.heap.size (bys (fill l)).toArray)) := Lib.hid (Rg.below_setRow hb1 (Nat.le_refl _) _)
  have HR2 : Hid ((w1.setRow w.heap.size (bys (fill l)).toArray).heap[w.heap.size]? = some (.cells (bysA (padi l b 0)) 5 (0, 0))) := Lib.hid (by rw [padi_zero]; exact setRow_heap _ _ _ _ _ _ HR1.out)
  obtain ⟨w2, hw2⟩ : ∃ w2, w2 = w1.setRow w.heap.size (bys (fill l)).toArray := ⟨_, rfl⟩
  obtain ⟨g, hg⟩ : ∃ g, g = w.heap.size := ⟨_, rfl⟩
  have HGE : Hid (w.heap.size ≤ g) := Lib.hid (by omega)
  rw [← hw2, ← hg] at HR2
  rw [← hw2] at HB2
  rw [← hw2, ← hg]
  clear hl1 hb1 HR1 HL hw2 hg
  go_loopw [13] (fun i wr => ∃ k : Nat, k ≤ 64 ∧ i = .int .i64 k ∧ wr.heap[g]? = some (.cells (bysA (padi l b k)) 5 (0, 0)) ∧ Below w.heap.size w wr) (fun i _ => 64 - (intOf i).toNat)
  case atStart => exact ⟨0, by omega, rfl, HR2.out, HB2.out⟩
  case round =>
    obtain ⟨k, hk, rfl, hrow, hb⟩ := hrel
    have hlen := padi_length l b k h64
    by_cases hlt : k < 64
    · have c0 := Ref.cell_of_bys hrow (k := k) (by omega)
      rw [padi_at l b k h64 hlt] at c0
      have hset := padi_succ l b k h64 hlt
      obtain ⟨x, hx⟩ : ∃ x, x = bt (fill l) k := ⟨_, rfl⟩
      rw [← hx] at c0 hset
      have f0 : wr.frozen? ⟨g, k, none⟩ = false := frozen_of_row _ _ _ _ _ hrow
      have q1 : (k : Int) < 64 := by omega
      have HROW := Lib.hid hrow
      have HSET := Lib.hid hset
      clear hrow hset hx hlen
      go_wp2
      refine ⟨⟨k + 1, by omega, by go_num, ?_, ?_⟩, by simp [intOf]; omega⟩
      · rw [heap_setCell_same _ _ _ _ _ _ HROW.out, ← HSET.out, ← bysA_set, UInt8.toNat_xor]
      · exact hb.setCell HGE.out _
    · obtain rfl : k = 64 := by omega
      rw [padi_full l b h64] at hrow
      clear hlen
      have HROW := Lib.hid hrow
      clear hrow
      go_wp2
      go_ret
      exact ⟨g, rfl, Nat.le_trans HB0.out.size HGE.out, HROW.out, HB0.out.trans (hb.mono HB0.out.size)⟩
end Ref
end Go.Proofs.YtkembhonfehlbaaDoor
