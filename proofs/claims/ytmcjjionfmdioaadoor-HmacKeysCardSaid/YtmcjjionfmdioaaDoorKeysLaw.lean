/- The walk of custumallaw03.HmacKeys. -/
import Derived.Test.YtmcjjionfmdioaaDoorKeys
namespace Go.Proofs.YtmcjjionfmdioaaDoor
open Go.RowKit Bits Mem Sha
namespace Ref
@[go_sem] theorem bstr_take (l : List UInt8) (k : Nat) : (⟨l.toArray⟩ : ByteArray).extract 0 k = ⟨(l.take k).toArray⟩ := by
  apply ByteArray.ext
  simp
set_option maxRecDepth 100000 in
set_option maxHeartbeats 1000000 in
theorem hmacKeys_any (k m : List UInt8) (n : Int) (w : World) (hS : Sha.Tabs w) (hR : Ref.Tabs w) (hk : k.length = 32) :
    Calls Tryd.prog 13 #[.agg (bysA k), .string ⟨m.toArray⟩, .int .i64 n] w fun e w' => e = .returned (.bool true) ∧ Below w.heap.size w w' := by
  have HS := Lib.hid hS
  have HR := Lib.hid hR
  have HK := Lib.hid hk
  clear hS hR hk
  have hmin : (if (200 : Int) < (m.length : Int) then (200 : Int) else (m.length : Int)) = ((min m.length 200 : Nat) : Int) := by split <;> omega
  have hrow := Rg.heap_alloc_at w (.cells (bysA k) 25) w.heap.size rfl
  have HROW := Lib.hid hrow
  have HI0 : Hid ((Tryd.prog.info? 25).map (·.size) = some (bysA k).size) := Lib.hid (by rw [bysA_size, HK.out]; exact info32)
  clear hrow
  go_enter Tryd.func13, Tryd.ntmps13
  go_wp2_with (refine wpList_load_row rfl 25 _ rfl w.heap.size rfl 25 (bysA k) (0, 0) _ HROW.out Tryd.underlying25 rfl HI0.out ?_)
  have hb0 : Below w.heap.size w (w.alloc (.cells (bysA k) 25)) := (Below.refl _ _).alloc (Nat.le_refl _) _
  obtain ⟨m2, hm2⟩ : ∃ m2, m2 = m.take (min m.length 200) := ⟨_, rfl⟩
  have hml : m2.length ≤ 200 := by rw [hm2, List.length_take]; omega
  rw [← hm2]
  obtain ⟨wa, hwa⟩ : ∃ wa, wa = w.alloc (.cells (bysA k) 25) := ⟨_, rfl⟩
  rw [← hwa] at HROW hb0 ⊢
  have HBA := Lib.hid hb0
  clear hm2 hwa hb0 hmin
  refine (key_any k m2 n _ (HS.out.below HBA.out) HK.out (by omega)).mono ?_
  rintro e w1 ⟨rfl, hb1⟩
  have HB1 := Lib.hid (HBA.out.trans (hb1.mono HBA.out.size))
  have HR1 := Lib.hid (Rp.row_le hb1 HROW.out)
  obtain ⟨X, hX⟩ : ∃ X, X = hmac k (m2 ++ 0 :: eight n) := ⟨_, rfl⟩
  rw [← hX]
  have HL : Hid (X.length = 32) := Lib.hid (by rw [hX, hmac_length])
  have HX := Lib.hid hX
  have HI : Hid ((Tryd.prog.info? 25).map (·.size) = some (bysA X).size) := Lib.hid (by rw [bysA_size, HL.out]; exact info32)
  clear hX hb1 HBA HROW
  go_wp2_with (refine Rg.store_row_new rfl 25 _ _ rfl (w1).heap.size rfl rfl 25 _ (bysA (X)) rfl HI.out (by rw [bysA_size, HL.out]; rfl) (bysA_one _) ?_)
  have hrow := Rg.heap_alloc_at w1 (.cells (bysA X) 25) w1.heap.size rfl
  have hba : Below w1.heap.size w1 (w1.alloc (.cells (bysA X) 25)) := (Below.refl _ _).alloc (Nat.le_refl _) _
  refine Rp.region 11 [(0, false), (1, true), (2, true), (3, true), (4, true), (5, true), (6, true), (7, true), (8, false), (9, true), (10, true)] (by kernel_rfl) (by kernel_rfl) ?_; simp only [Rp.pick, Rp.nth, List.drop_succ_cons, List.drop_zero]
  obtain ⟨wd, hwd⟩ : ∃ wd, wd = (w1.alloc (.cells (bysA X) 25)).drew := ⟨_, rfl⟩
  have hbd : Below w1.heap.size w1 wd := by rw [hwd]; exact hba.drew
  have HBD := Lib.hid (HB1.out.trans (hbd.mono HB1.out.size))
  have HKD := Lib.hid (Rp.row_le hbd HR1.out)
  have HROW : Hid (wd.heap[w1.heap.size]? = some (.cells (bysA X) 25)) := Lib.hid (by rw [hwd]; exact hrow)
  rw [← hwd]
  clear hwd hbd hba hrow HB1 HR1
  refine Rp.stepF fun K hK => ?_; go_wp2_with fail; refine (marks_any _ (HS.out.below HBD.out)).mono ?_; rintro e w5 ⟨rfl, hb5⟩; go_wp2_with fail; refine hK _ _ hb5 ?_; clear hK K
  have HB5 := Lib.hid (HBD.out.trans (hb5.mono HBD.out.size))
  have HK5 := Lib.hid (Rp.row_le hb5 HKD.out)
  have HR5 := Lib.hid (Rp.row_le hb5 HROW.out)
  clear hb5 HBD HKD HROW
  go_simp
  repeat (refine Rp.stepK rfl ?_; intro K hK; apply Exists.intro; refine ⟨?_, ?_⟩; (focus (intro x hx;  go_simp; (first | (fail) | ((try go_bits); (try go_simp); (try rfl))))); go_simp; refine hK _ ?_; clear hK K)
  refine Rp.s_str rfl 28 9 _ rfl 5 Tryd.underlying9 Tryd.underlying28 Tryd.underlying5 _ _ (X) rfl (Rd_of_row HR5.out HL.out (by decide)) ?_; intro K hK; go_simp; refine hK _ ?_; clear hK K
  repeat (refine Rp.stepK rfl ?_; intro K hK; apply Exists.intro; refine ⟨?_, ?_⟩; (focus (intro x hx;  go_simp; (first | (fail) | ((try go_bits); (try go_simp); (try rfl))))); go_simp; refine hK _ ?_; clear hK K)
  refine Rp.s_str rfl 28 9 _ rfl 5 Tryd.underlying9 Tryd.underlying28 Tryd.underlying5 _ _ (k) rfl (Rd_of_row HK5.out HK.out (by decide)) ?_; intro K hK; go_simp; refine hK _ ?_; clear hK K
  repeat (refine Rp.stepK rfl ?_; intro K hK; apply Exists.intro; refine ⟨?_, ?_⟩; (focus (intro x hx;  go_simp; (first | (fail) | ((try go_bits); (try go_simp); (try rfl))))); go_simp; refine hK _ ?_; clear hK K)
  refine Rp.stepF fun K hK => ?_; go_wp2_with fail; refine (refkey_any k m2 n _ (HR.out.below HB5.out) (by rw [HK.out]; omega) (by omega)).mono ?_; rintro e w6 ⟨rfl, hb6⟩; go_wp2_with fail; refine hK _ _ hb6 ?_; clear hK K
  have HB6 := Lib.hid (HB5.out.trans (hb6.mono HB5.out.size))
  rw [← HX.out]
  clear hb6
  go_simp
  repeat (refine Rp.stepK rfl ?_; intro K hK; apply Exists.intro; refine ⟨?_, ?_⟩; (focus (intro x hx;  go_simp; (first | (fail) | ((try go_bits); (try go_simp); (try rfl))))); go_simp; refine hK _ ?_; clear hK K)
  refine Rp.done ?_; go_wp2_with fail; refine NoPanic.normal ?_; go_wp2_with fail
  go_ret
  exact ⟨rfl, HB6.out⟩
end Ref
end Go.Proofs.YtmcjjionfmdioaaDoor
