/- The walks of chain.Next and custumallaw18.chains. -/
import Derived.Test.YtmcjjionfmdioaaDoorChain
import Derived.Test.YtmcjjionfmdioaaDoorPlanB
namespace Go.Proofs.YtmcjjionfmdioaaDoor
open Go.RowKit Bits Mem Sha
namespace Ref
def nextLink (id : List UInt8) (n : Int) (root ahead : List UInt8) : List UInt8 := sha (linkText id n root ahead)
theorem nextLink_length (id : List UInt8) (n : Int) (root ahead : List UInt8) : (nextLink id n root ahead).length = 32 := sha_length _
set_option maxRecDepth 100000 in
set_option maxHeartbeats 4000000 in
theorem next_any (q : Option Addr) (c : Nat) (l : List UInt8) (n : Int) (root ahead : List UInt8) (w : World) (hS : Sha.Tabs w) (hl : Rd w 1 (.slice q l.length c) l.length (bys l)) (h : l.length ≤ 1000000) (hr : root.length = 32) (ha : ahead.length = 32) :
    Calls Tryd.prog 22 #[.slice q l.length c, .int .i64 n, .agg (bysA root), .agg (bysA ahead)] w fun e w' => e = .returned (.agg (bysA (nextLink l n root ahead))) ∧ Below w.heap.size w w' := by
  have HS := Lib.hid hS
  have HL := Lib.hid hl
  have HRL := Lib.hid hr
  have HAL := Lib.hid ha
  clear hS hl hr ha
  obtain ⟨wz, hwz⟩ : ∃ wz, wz = ((w.alloc (.cells (bysA root) 25)).alloc (.cells (bysA ahead) 25)).alloc (.cells (bysA zeros32) 25) := ⟨_, rfl⟩
  have hbz : Below w.heap.size w wz := by rw [hwz]; exact (((Below.refl _ _).alloc (Nat.le_refl _) _).alloc (by simp) _).alloc (by simp; omega) _
  have hrr : wz.heap[w.heap.size]? = some (.cells (bysA root) 25 (0, 0)) := by rw [hwz]; exact (Rg.heap_alloc_past _ _ _ (by simp; omega)).trans ((Rg.heap_alloc_past _ _ _ (by simp)).trans (Rg.heap_alloc_at w _ _ rfl))
  have hra : wz.heap[w.heap.size + 1]? = some (.cells (bysA ahead) 25 (0, 0)) := by rw [hwz]; exact (Rg.heap_alloc_past _ _ _ (by simp)).trans (Rg.heap_alloc_at _ _ _ (by simp))
  have hrz : wz.heap[w.heap.size + 1 + 1]? = some (.cells (bysA zeros32) 25 (0, 0)) := by rw [hwz]; exact Rg.heap_alloc_at _ _ _ (by simp)
  have HWZ := Lib.hid hwz
  have HBZ := Lib.hid hbz
  have HRR := Lib.hid hrr
  have HRA := Lib.hid hra
  have HRZ := Lib.hid hrz
  have HIR : Hid ((Tryd.prog.info? 25).map (·.size) = some (bysA root).size) := Lib.hid (by rw [bysA_size, HRL.out]; exact info32)
  have HIA : Hid ((Tryd.prog.info? 25).map (·.size) = some (bysA ahead).size) := Lib.hid (by rw [bysA_size, HAL.out]; exact info32)
  clear hwz hbz hrr hra hrz
  go_enter Tryd.func22, Tryd.ntmps22
  go_wp2_with (first | (rw [z32, ← HWZ.out]; refine wpList_load_row rfl 25 _ rfl w.heap.size rfl 25 (bysA root) (0, 0) _ HRR.out Tryd.underlying25 rfl HIR.out ?_) | (refine wpList_load_row rfl 25 _ rfl (w.heap.size + 1) rfl 25 (bysA ahead) (0, 0) _ HRA.out Tryd.underlying25 rfl HIA.out ?_))
  refine (ctext_any q c l n root ahead _ (HL.out.below HBZ.out) h HRL.out HAL.out).mono ?_
  rintro e w1 ⟨v, rfl, hown, hb1⟩
  obtain ⟨qt, ct, rfl⟩ := Ow_form hown
  have HB1 := Lib.hid (HBZ.out.trans (hb1.mono HBZ.out.size))
  have HRZ1 := Lib.hid (Rp.row_le hb1 HRZ.out)
  have HT1 := Lib.hid (Rd.of_ow hown)
  have htl := linkText_length l n root ahead HRL.out HAL.out
  have HNX : Hid (sha (linkText l n root ahead) = nextLink l n root ahead) := Lib.hid rfl
  obtain ⟨T, hT⟩ : ∃ T, T = linkText l n root ahead := ⟨_, rfl⟩
  rw [← hT] at HT1 htl HNX ⊢
  have hTl : T.length ≤ 1000075 := by omega
  clear htl hT hown hb1 HRR HRA HRZ HBZ HWZ
  go_wp2_with fail
  have hx2 : Below w1.heap.size w1 (w1.alloc (.cells #[.slice qt T.length ct] 28)) := (Below.refl _ _).alloc (Nat.le_refl _) _
  have hs := parts_any _ _ [T] _ (HS.out.below (HB1.out.trans (hx2.mono HB1.out.size))) (Parts.lit1 w1 T _ ⟨_, _, rfl, HT1.out⟩) (by simp; omega)
  rw [show [T].flatten = T from by simp] at hs
  refine hs.mono ?_
  clear hs
  rintro e w2 ⟨rfl, hb2⟩
  have h12 : Below w1.heap.size w1 w2 := hx2.trans (hb2.mono hx2.size)
  have HB2 := Lib.hid (HB1.out.trans (h12.mono HB1.out.size))
  have HRZ2 := Lib.hid (Rp.row_le h12 HRZ1.out)
  have HM := Lib.hid (sha_length T)
  rw [HNX.out] at HM ⊢
  obtain ⟨R, hR⟩ : ∃ R, R = nextLink l n root ahead := ⟨_, rfl⟩
  rw [← hR] at HM ⊢
  have HRR := Lib.hid hR
  have HIM : Hid ((Tryd.prog.info? 25).map (·.size) = some (bysA R).size) := Lib.hid (by rw [bysA_size, HM.out]; exact info32)
  clear hR hb2 h12 hx2
  go_wp2_with (refine Rg.store_row rfl 25 _ _ rfl (w.heap.size + 1 + 1) rfl 25 (bysA zeros32) (bysA R) rfl HRZ2.out HIM.out (by rw [bysA_size, bysA_size, HM.out]; rfl) (bysA_one _) ?_)
  refine bodyPost_ret (v := .agg (bysA R)) (results_cell_row (P := Tryd.prog) rfl _ _ (w.heap.size + 1 + 1) 25 (bysA R) (0, 0) _ rfl (setRow_heap _ _ _ _ 25 _ HRZ2.out) Tryd.underlying25 rfl HIM.out) rfl ⟨by rw [HRR.out], ?_⟩
  exact Rg.below_setRow HB2.out (by omega) _
set_option maxRecDepth 100000 in
set_option maxHeartbeats 4000000 in
theorem chains_any (w : World) (hS : Sha.Tabs w) (hR : Ref.Tabs w) : Calls Tryd.prog 24 #[] w fun e w' => e = .returned (.bool true) ∧ Below w.heap.size w w' := by
  have HS := Lib.hid hS
  have HR := Lib.hid hR
  clear hS hR
  go_enter Tryd.func24, Tryd.ntmps24
  go_wp2_with (refine conv_lit rfl 28 _ rfl 5 Tryd.underlying28 Tryd.underlying5 _ _ _ rfl _ _ rfl (by simp) ?_)
  have hx1 : Below w.heap.size w (w.alloc (.cells #[.int .u8 97, .int .u8 98] 5 (2, 3))) := (Below.refl _ _).alloc (Nat.le_refl _) _
  have hr1 := Rd_marked w [97, 98] 2 #[.int .u8 97, .int .u8 98] rfl rfl (by decide)
  refine (first_any _ _ [97, 98] _ (HS.out.below hx1) hr1 (by decide)).mono ?_
  rintro e w1 ⟨rfl, hb1⟩
  have HB1 := Lib.hid (hx1.trans (hb1.mono hx1.size))
  have HL : Hid ((firstLink [97, 98]).length = 32) := Lib.hid (sha_length _)
  have HI : Hid ((Tryd.prog.info? 25).map (·.size) = some (bysA (firstLink [97, 98])).size) := Lib.hid (by rw [bysA_size, HL.out]; exact info32)
  clear hb1 hx1 hr1
  go_wp2_with (refine Rg.store_row_new rfl 25 _ _ rfl (w1).heap.size rfl rfl 25 _ (bysA (firstLink [97, 98])) rfl HI.out (by rw [bysA_size, HL.out]; rfl) (bysA_one _) ?_)
  have hrow := Rg.heap_alloc_at w1 (.cells (bysA (firstLink [97, 98])) 25) w1.heap.size rfl
  have hba : Below w1.heap.size w1 (w1.alloc (.cells (bysA (firstLink [97, 98])) 25)) := (Below.refl _ _).alloc (Nat.le_refl _) _
  obtain ⟨wa, hwa⟩ : ∃ wa, wa = w1.alloc (.cells (bysA (firstLink [97, 98])) 25) := ⟨_, rfl⟩
  have HROW : Hid (wa.heap[w1.heap.size]? = some (.cells (bysA (firstLink [97, 98])) 25)) := Lib.hid (by rw [hwa]; exact hrow)
  have HBA : Hid (Below w.heap.size w wa) := Lib.hid (by rw [hwa]; exact HB1.out.trans (hba.mono HB1.out.size))
  rw [← hwa]
  clear hwa hrow hba
  refine Rb.plan (wa.heap.size) 13 (.s 2 (.s 3 (.f 0 (.f 1 (.f 4 (.s 5 (.s 6 (.s 7 (.s 8 (.s 9 (.f 10 (.s 11 (.s 12 (.done)))))))))))))) (by kernel_rfl) (by kernel_rfl) ?_; simp only [List.drop_succ_cons, List.drop_zero]
  repeat (refine Rb.pK rfl rfl ?_; intro K hK; apply Exists.intro; refine ⟨?_, ?_⟩; (focus (intro x hx;  go_simp; (first | (fail) | ((try go_bits); (try go_simp); (try rfl))))); go_simp; refine hK _ ?_; clear hK K)
  rw [z32]
  obtain ⟨wd, hwd⟩ : ∃ wd, wd = wa.drew := ⟨_, rfl⟩
  have hws : wa.heap.size = wd.heap.size := by rw [hwd]; rfl
  have HBD : Hid (Below w.heap.size w wd) := Lib.hid (by rw [hwd]; exact HBA.out.drew)
  have HRD : Hid (wd.heap[w1.heap.size]? = some (.cells (bysA (firstLink [97, 98])) 25)) := Lib.hid (by rw [hwd]; exact HROW.out)
  rw [← hwd, hws]
  clear hwd hws HBA HROW
  refine Rb.pF (by rfl) fun K hK => ?_
  go_wp2_with fail
  refine hK _ _ ((Below.refl _ _).alloc (Nat.le_refl _) _) ?_; clear hK K
  refine Rb.pF (by rfl) fun K hK => ?_
  refine conv_lit rfl 28 _ rfl 5 Tryd.underlying28 Tryd.underlying5 _ _ _ rfl wd #[.int .u8 97, .int .u8 98, .int .u8 99, .int .u8 100, .int .u8 101] rfl rfl ?_
  have hx2 : Below wd.heap.size wd (wd.alloc (.cells #[.int .u8 97, .int .u8 98, .int .u8 99, .int .u8 100, .int .u8 101] 5 (5, 6))) := (Below.refl _ _).alloc (Nat.le_refl _) _
  have hk2 : Rb.Le wd.heap.size (wd.alloc (.cells #[.int .u8 97, .int .u8 98, .int .u8 99, .int .u8 100, .int .u8 101] 5)) (wd.alloc (.cells #[.int .u8 97, .int .u8 98, .int .u8 99, .int .u8 100, .int .u8 101] 5 (5, 6))) := ⟨rfl, rfl, rfl, by simp, fun k hk => by rw [Rg.heap_alloc_past _ _ _ hk, Rg.heap_alloc_past _ _ _ hk]⟩
  have hr2 := Rd_marked wd [97, 98, 99, 100, 101] 5 #[.int .u8 97, .int .u8 98, .int .u8 99, .int .u8 100, .int .u8 101] rfl rfl (by decide)
  refine hK _ _ hk2 ?_; clear hK K
  obtain ⟨wc, hwc⟩ : ∃ wc, wc = wd.alloc (.cells #[.int .u8 97, .int .u8 98, .int .u8 99, .int .u8 100, .int .u8 101] 5 (5, 6)) := ⟨_, rfl⟩
  rw [← hwc] at hx2 hr2
  have hwc2 : wd.alloc (.cells #[.int .u8 97, .int .u8 98, .int .u8 99, .int .u8 100, .int .u8 101] 5 (Array.size #[Value.int .u8 97, Value.int .u8 98, Value.int .u8 99, Value.int .u8 100, Value.int .u8 101], Array.size #[Value.int .u8 97, Value.int .u8 98, Value.int .u8 99, Value.int .u8 100, Value.int .u8 101] + 1)) = wc := by rw [hwc]; rfl
  rw [hwc2]
  have HRC := Lib.hid hr2
  have HBC := Lib.hid (HBD.out.trans (hx2.mono HBD.out.size))
  have HX2 := Lib.hid hx2
  clear hwc hwc2 hx2 hr2 hk2
  refine Rb.pF (by rfl) fun K hK => ?_
  go_wp2_with fail
  refine (ctext_any _ _ [97, 98, 99, 100, 101] 1 zeros32 zeros32 _ HRC.out (by decide) rfl rfl).mono ?_
  rintro e w3 ⟨v, rfl, hown, hb3⟩
  obtain ⟨qt, ct, rfl⟩ := Ow_form hown
  have h80 : (linkText [97, 98, 99, 100, 101] 1 zeros32 zeros32).length = 80 := linkText_length _ _ _ _ rfl rfl
  rw [h80]
  have HX3 := Lib.hid (HX2.out.trans (hb3.mono HX2.out.size))
  have HB3 := Lib.hid (HBD.out.trans (HX3.out.mono HBD.out.size))
  go_wp2_with fail
  refine hK _ _ (hb3.mono HX2.out.size) ?_; clear hK K
  clear hb3 hown h80
  go_simp
  repeat (refine Rb.pK rfl rfl ?_; intro K hK; apply Exists.intro; refine ⟨?_, ?_⟩; (focus (intro x hx;  go_simp; (first | (fail) | ((try go_bits); (try go_simp); (try rfl))))); go_simp; refine hK _ ?_; clear hK K)
  refine Rb.p_str rfl rfl 28 9 _ rfl 5 Tryd.underlying9 Tryd.underlying28 Tryd.underlying5 _ _ (firstLink [97, 98]) rfl (fun x hx => Rd_of_row (Rb.row_le hx (lt_of_heap HRD.out) (Rb.row_le HX3.out (lt_of_heap HRD.out) HRD.out)) HL.out (by decide)) ?_; intro K hK; go_simp; refine hK _ ?_; clear hK K
  repeat (refine Rb.pK rfl rfl ?_; intro K hK; apply Exists.intro; refine ⟨?_, ?_⟩; (focus (intro x hx;  go_simp; (first | (fail) | ((try go_bits); (try go_simp); (try rfl))))); go_simp; refine hK _ ?_; clear hK K)
  refine Rb.pF (by rfl) fun K hK => ?_
  go_wp2_with fail
  refine (sum_any ⟨#[4, 97, 98]⟩ [4, 97, 98] (by rfl) _ (HR.out.below HB3.out) (by decide)).mono ?_
  rintro e w4 ⟨rfl, hb4⟩
  have HB4 := Lib.hid (HB3.out.trans (hb4.mono HB3.out.size))
  go_wp2_with fail
  refine hK _ _ (hb4.mono HX3.out.size) ?_; clear hK K
  clear hb4
  have HFE : Hid (sha [4, 97, 98] = firstLink [97, 98]) := Lib.hid rfl
  rw [HFE.out]
  go_simp
  repeat (refine Rb.pK rfl rfl ?_; intro K hK; apply Exists.intro; refine ⟨?_, ?_⟩; (focus (intro x hx;  go_simp; (first | (fail) | ((try go_bits); (try go_simp); (try rfl))))); go_simp; refine hK _ ?_; clear hK K)
  refine Rb.pDone ?_; go_wp2_with fail; refine NoPanic.normal ?_; go_wp2_with fail
  go_ret
  exact ⟨rfl, HB4.out⟩
end Ref
end Go.Proofs.YtmcjjionfmdioaaDoor
