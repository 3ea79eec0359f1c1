/- The walk of custumallaw01.Sha2Roots. -/
import Derived.Test.YtmcjjionfmdioaaDoorRight
import Derived.Test.YtmcjjionfmdioaaDoorSums
import Derived.Test.YtmcjjionfmdioaaDoorSizes
namespace Go.Proofs.YtmcjjionfmdioaaDoor
open Go.RowKit Bits Mem Sha
namespace Ref
set_option maxRecDepth 100000 in
set_option maxHeartbeats 4000000 in
theorem sha2roots_any (q : Option Addr) (c : Nat) (l : List UInt8) (w : World) (hS : Sha.Tabs w) (hR : Ref.Tabs w) (hl : Rd w 1 (.slice q l.length c) l.length (bys l)) :
    Calls Tryd.prog 5 #[.slice q l.length c] w fun e w' => e = .returned (.bool true) ∧ Below w.heap.size w w' := by
  have HS := Lib.hid hS
  have HR := Lib.hid hR
  have hcap := Rd_cap hl
  have hmin : (if (100 : Int) < (l.length : Int) then (100 : Int) else (l.length : Int)) = ((min l.length 100 : Nat) : Int) := by split <;> omega
  have hrd := Rd_take hl (Nat.min_le_left l.length 100)
  obtain ⟨m, hm⟩ : ∃ m, m = min l.length 100 := ⟨_, rfl⟩
  rw [← hm] at hmin hrd
  have hmc : m ≤ c := by omega
  have hm1 : m ≤ 100 := by omega
  obtain ⟨Z, hZ⟩ : ∃ Z, Z = l.take m := ⟨_, rfl⟩
  have hZl : Z.length = m := by rw [hZ, List.length_take]; omega
  rw [← hZ] at hrd
  have hml : m ≤ l.length := by omega
  have hcM := hcap.2
  clear hS hR hl hm hZ hcap
  go_enter Tryd.func5, Tryd.ntmps5
  go_wp2_with fail
  subst hZl
  have HRD := Lib.hid hrd
  clear hrd hmin
  have hw2 : Below w.heap.size w (w.alloc (.cells #[.slice q Z.length c] 28)) := (Below.refl _ _).alloc (Nat.le_refl _) _
  refine (parts_any _ _ [Z] _ (HS.out.below hw2) (Parts.lit1 w Z _ ⟨_, _, rfl, HRD.out⟩) (by simp; omega)).mono ?_
  rintro e w3 ⟨rfl, hb3⟩
  have HB3 := Lib.hid (hw2.trans (hb3.mono hw2.size))
  have HRD3 := Lib.hid (HRD.out.below HB3.out)
  have hF : [Z].flatten = Z := by simp
  rw [hF]
  clear hF hb3 hw2 HRD
  have HL := Lib.hid (sha_length Z)
  have HI : Hid ((Tryd.prog.info? 25).map (·.size) = some (bysA (sha Z)).size) := Lib.hid (by rw [bysA_size, sha_length]; exact info32)
  go_wp2_with (refine Rg.store_row_new rfl 25 _ _ rfl (w3).heap.size rfl rfl 25 _ (bysA (sha Z)) rfl HI.out (by rw [bysA_size, HL.out]; rfl) (bysA_one _) ?_)
  have hrow := Rg.heap_alloc_at w3 (.cells (bysA (sha Z)) 25) w3.heap.size rfl
  have hba : Below w3.heap.size w3 (w3.alloc (.cells (bysA (sha Z)) 25)) := (Below.refl _ _).alloc (Nat.le_refl _) _
  refine Rp.region 12 [(0, false), (1, true), (2, false), (3, true), (4, true), (5, true), (6, true), (7, true), (8, true), (9, false), (10, true), (11, true)] (by kernel_rfl) (by kernel_rfl) ?_; simp only [Rp.pick, Rp.nth, List.drop_succ_cons, List.drop_zero]
  obtain ⟨wd, hwd⟩ : ∃ wd, wd = (w3.alloc (.cells (bysA (sha Z)) 25)).drew := ⟨_, rfl⟩
  have hbd : Below w3.heap.size w3 wd := by rw [hwd]; exact hba.drew
  have HRDD := Lib.hid (HRD3.out.below hbd)
  have HBD := Lib.hid (HB3.out.trans (hbd.mono HB3.out.size))
  have HROW : Hid (wd.heap[w3.heap.size]? = some (.cells (bysA (sha Z)) 25)) := Lib.hid (by rw [hwd]; exact hrow)
  rw [← hwd]
  clear hwd hbd hba hrow
  refine Rp.stepF fun K hK => ?_; go_wp2_with fail; refine (sums_any _ (HS.out.below HBD.out)).mono ?_; rintro e w4 ⟨rfl, hb4⟩; go_wp2_with fail; refine hK _ _ hb4 ?_; clear hK K
  have HR4 := Lib.hid (Rp.row_le hb4 HROW.out)
  have HB4 := Lib.hid (HBD.out.trans (hb4.mono HBD.out.size))
  have HRD4 := Lib.hid (HRDD.out.below hb4)
  clear hb4
  go_simp
  repeat (refine Rp.stepK rfl ?_; intro K hK; apply Exists.intro; refine ⟨?_, ?_⟩; (focus (intro x hx;  go_simp; (first | (fail) | ((try go_bits); (try go_simp); (try rfl))))); go_simp; refine hK _ ?_; clear hK K)
  refine Rp.stepF fun K hK => ?_; go_wp2_with fail; refine (right_any _ (HR.out.below HB4.out)).mono ?_; rintro e w5 ⟨rfl, hb5⟩; go_wp2_with fail; refine hK _ _ hb5 ?_; clear hK K
  have HR5 := Lib.hid (Rp.row_le hb5 HR4.out)
  have HB5 := Lib.hid (HB4.out.trans (hb5.mono HB4.out.size))
  have HRD5 := Lib.hid (HRD4.out.below hb5)
  clear hb5
  go_simp
  repeat (refine Rp.stepK rfl ?_; intro K hK; apply Exists.intro; refine ⟨?_, ?_⟩; (focus (intro x hx;  go_simp; (first | (fail) | ((try go_bits); (try go_simp); (try rfl))))); go_simp; refine hK _ ?_; clear hK K)
  refine Rp.s_str rfl 28 9 _ rfl 5 Tryd.underlying9 Tryd.underlying28 Tryd.underlying5 _ _ (sha Z) rfl (Rd_of_row HR5.out HL.out (by decide)) ?_; intro K hK; go_simp; refine hK _ ?_; clear hK K
  repeat (refine Rp.stepK rfl ?_; intro K hK; apply Exists.intro; refine ⟨?_, ?_⟩; (focus (intro x hx;  go_simp; (first | (fail) | ((try go_bits); (try go_simp); (try rfl))))); go_simp; refine hK _ ?_; clear hK K)
  refine Rp.s_str rfl 28 9 _ rfl 5 Tryd.underlying9 Tryd.underlying28 Tryd.underlying5 _ _ (Z) rfl (HRD5.out) ?_; intro K hK; go_simp; refine hK _ ?_; clear hK K
  refine Rp.stepF fun K hK => ?_; go_wp2_with fail; refine (sum_any ⟨Z.toArray⟩ Z (by rfl) _ (HR.out.below HB5.out) (by omega)).mono ?_; rintro e w6 ⟨rfl, hb6⟩; go_wp2_with fail; refine hK _ _ hb6 ?_; clear hK K
  have HB6 := Lib.hid (HB5.out.trans (hb6.mono HB5.out.size))
  clear hb6
  go_simp
  repeat (refine Rp.stepK rfl ?_; intro K hK; apply Exists.intro; refine ⟨?_, ?_⟩; (focus (intro x hx;  go_simp; (first | (fail) | ((try go_bits); (try go_simp); (try rfl))))); go_simp; refine hK _ ?_; clear hK K)
  refine Rp.done ?_; go_wp2_with fail; refine NoPanic.normal ?_; go_wp2_with fail
  go_ret
  exact ⟨rfl, HB6.out⟩
end Ref
end Go.Proofs.YtmcjjionfmdioaaDoor
