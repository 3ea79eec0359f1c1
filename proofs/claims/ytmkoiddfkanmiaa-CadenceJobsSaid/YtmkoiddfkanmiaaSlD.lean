/- slices.Delete of one element, anywhere in a row of one's own. -/
import Derived.Test.YtmkoiddfkanmiaaSlI
namespace Go.Proofs.Ytmkoiddfkanmiaa
open Go.RowKit
namespace Cad
open Mem
set_option maxRecDepth 100000 in
set_option maxHeartbeats 2000000 in
theorem delOne_any (base g : Nat) (n c i : Nat) (xs : List Value) (w : World) (h1x : ∀ u ∈ xs, u.oneCell' = true)
    (ho : Ow w base 58 3 (.slice (some ⟨g, 0, none⟩) n c) n xs) (hi : i < n) (hl : n ≤ 1000000) :
    Calls Try.prog 24 #[.slice (some ⟨g, 0, none⟩) n c, .int .i64 i, .int .i64 ((i : Int) + 1)] w fun e w' => e = .returned (.slice (some ⟨g, 0, none⟩) (n - 1) c) ∧ Ow w' base 58 3 (.slice (some ⟨g, 0, none⟩) (n - 1) c) (n - 1) (xs.take (i * 3) ++ xs.drop ((i + 1) * 3)) ∧ w.grownBy w' (some g) := by
  obtain ⟨hnc, hcm, _, hgl⟩ := ho.cap
  have hc63 : c ≤ 9223372036854775807 := by unfold maxLen at hcm; omega
  obtain ⟨i0, hi0, hz0, hzs, hzb⟩ := parts3M infoinsOne
  have hxl := ho.1
  have hdl : (xs.drop ((i + 1) * 3)).length = (n - (i + 1)) * 3 := by rw [List.length_drop, hxl]; omega
  obtain ⟨A, hA, hsrc⟩ : ∃ A : Addr, (if c = i + 1 then (some ⟨g, 0, none⟩ : Option Addr) else some ⟨g, (i + 1) * 3, none⟩) = some A ∧ Hid (∀ j u, (xs.drop ((i + 1) * 3))[j]? = some u → w.drew.cell? (A.add j) = some u) := by
    by_cases h : c = i + 1
    · refine ⟨⟨g, 0, none⟩, by simp [h], fun t u hu => ?_⟩
      rw [List.drop_eq_nil_of_le (by omega)] at hu
      simp at hu
    · refine ⟨⟨g, (i + 1) * 3, none⟩, by simp [h], fun t u hu => ?_⟩
      rw [addr_add]
      exact ho.cellx (w := w) (by rw [List.getElem?_drop] at hu; exact hu)
  obtain ⟨W1, hW1⟩ : ∃ W1, W1 = w.drew.setCells g (i * 3) (xs.drop ((i + 1) * 3)) := ⟨_, rfl⟩
  have hod : Ow w.drew base 58 3 (.slice (some ⟨g, 0, none⟩) n c) n xs := ho
  obtain ⟨hw1, hg1⟩ := hod.write (i * 3) (xs.drop ((i + 1) * 3)) (by rw [hdl]; omega)
  have hcs := hod.cells
  have HA : Hid (∀ ty sc, (Builtin.append_ #[51, 51] ty #[.slice (some ⟨g, 0, none⟩) i c, .slice (some A) (n - (i + 1)) sc]).run Try.prog w.drew = .ok (.slice (some ⟨g, 0, none⟩) (n - 1) c) W1) := Lib.hid (fun ty sc => by
    have h := run_append_room_cells (P := Try.prog) w.drew 51 ty 58 i0 Try.underlying51 hi0 g 0 i c A (n - (i + 1)) sc (xs.drop ((i + 1) * 3)) (by rw [hzs, hdl]) hsrc.out (fun u hu => h1x u (List.mem_of_mem_drop hu)) (by omega)
      (fun j hj => (hcs _ (by rw [hdl] at hj; rw [hzs]; omega)).1) (fun j hj => (hcs _ (by rw [hdl] at hj; rw [hzs]; omega)).2)
    rw [hzs, Nat.zero_add, ← hW1, show i + (n - (i + 1)) = n - 1 by omega] at h
    exact h)
  rw [← hW1] at hw1 hg1
  obtain ⟨W2, hW2⟩ : ∃ W2, W2 = W1.setCells g ((n - 1) * 3) ([Value.string ⟨#[]⟩, Value.int .i64 0, Value.int .i64 0]) := ⟨_, rfl⟩
  obtain ⟨hw2, hg2⟩ := hw1.write ((n - 1) * 3) ([Value.string ⟨#[]⟩, Value.int .i64 0, Value.int .i64 0]) (by simp only [List.length_cons, List.length_nil]; omega)
  have hcs1 := hw1.cells
  have HC : Hid (∀ ty dc, (Builtin.clear_ #[51] ty #[.slice (some ⟨g, (n - 1) * 3, none⟩) 1 dc]).run Try.prog W1 = .ok (.tuple #[]) W2) := Lib.hid (fun ty dc => by
    rw [hW2]
    exact run_clear_sz W1 _ 58 ty (.agg #[.string ⟨#[]⟩, .int .i64 0, .int .i64 0]) ([Value.string ⟨#[]⟩, Value.int .i64 0, Value.int .i64 0]) Try.underlying51 (fun w => by simp [zeroValue, typeInfo, hi0, hz0]) g _ 1 dc (by kernel_rfl) (by intro v hv; simp only [List.mem_cons, List.not_mem_nil, or_false] at hv; rcases hv with rfl | rfl | rfl <;> rfl) (by omega)
      (fun j hj => (hcs1 _ (by simp only [List.length_cons, List.length_nil] at hj; omega)).1) (fun j hj => (hcs1 _ (by simp only [List.length_cons, List.length_nil] at hj; omega)).2))
  rw [← hW2] at hw2 hg2
  have hw3 := hw2.cut (n - 1) (by omega)
  have e0 : (xs.take (i * 3)).length = i * 3 := by rw [List.length_take, hxl]; omega
  have e1 : (xs.take (i * 3) ++ xs.drop ((i + 1) * 3)).length = (n - 1) * 3 := by rw [List.length_append, e0, hdl]; omega
  have hlist : (((xs.take (i * 3) ++ xs.drop ((i + 1) * 3) ++ xs.drop (i * 3 + (xs.drop ((i + 1) * 3)).length)).take ((n - 1) * 3) ++ ([Value.string ⟨#[]⟩, Value.int .i64 0, Value.int .i64 0]) ++ (xs.take (i * 3) ++ xs.drop ((i + 1) * 3) ++ xs.drop (i * 3 + (xs.drop ((i + 1) * 3)).length)).drop ((n - 1) * 3 + List.length ([Value.string ⟨#[]⟩, Value.int .i64 0, Value.int .i64 0]))).take ((n - 1) * 3)) = xs.take (i * 3) ++ xs.drop ((i + 1) * 3) := by
    rw [← e1, List.append_assoc ((List.take (xs.take (i * 3) ++ xs.drop ((i + 1) * 3)).length _)), List.take_left, List.take_left]
  rw [hlist] at hw3
  have HW := Lib.hid hw3
  have HG : Hid (w.grownBy W2 (some g)) := Lib.hid ⟨hg2.os.trans hg1.os, hg2.tape.trans hg1.tape, hg2.output.trans hg1.output, Nat.le_trans hg1.size hg2.size, fun k hk hn => (hg2.block k (Nat.lt_of_lt_of_le hk hg1.size) hn).trans (hg1.block k hk hn)⟩
  have hic : i ≤ c := by omega
  have hjc : i + 1 ≤ c := by omega
  have hii : ¬ ((i : Int) = (i : Int) + 1) := by omega
  have hin : i + 1 ≤ n := by omega
  have hjn : (i : Int) + 1 ≤ (n : Int) := by omega
  have hj0 : (0 : Int) ≤ (i : Int) + 1 := by omega
  have htn : ((i : Int) + 1).toNat = i + 1 := by omega
  have hjcI : (i : Int) + 1 ≤ (c : Int) := by omega
  have hn1 : n - (n - 1) = 1 := by omega
  have hcn : ¬ (c = n - 1) := by omega
  clear h1x ho hw1 hg1 hcs hod hw2 hg2 hw3 hcs1 hlist hW1 hW2 hdl hxl e0 e1 hi0 hz0 hzs hzb hsrc
  go_enter Try.func24, Try.ntmps24
  go_wp2_with fail
  go_region_law (refine step_append rfl _ _ 51 51 rfl (.slice (some ⟨g, 0, none⟩) i c) (.slice (some A) (n - (i + 1)) (c - (i + 1))) (by simp [Act.eval, Act.put]) (by simp [Act.eval, Act.put]) (HA.out 51 (c - (i + 1))) ?_)
  go_wp2_with fail
  rw [HC.out]
  go_wp2_with fail
  go_ret
  exact ⟨rfl, HW.out, HG.out⟩
end Cad
end Go.Proofs.Ytmkoiddfkanmiaa
