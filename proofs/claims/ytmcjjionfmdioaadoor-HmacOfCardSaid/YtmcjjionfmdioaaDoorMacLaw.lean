/- The walk of custumallaw03.HmacOf. -/
import Derived.Test.YtmcjjionfmdioaaDoorMacR
namespace Go.Proofs.YtmcjjionfmdioaaDoor
open Go.RowKit Bits Mem Sha
namespace Ref
set_option maxRecDepth 100000 in
set_option maxHeartbeats 4000000 in
theorem hmacOf_any (q : Option Addr) (c : Nat) (l : List UInt8) (pq : Option Addr) (pc : Nat) (L : List (List UInt8)) (w : World) (hS : Sha.Tabs w) (hR : Ref.Tabs w) (hl : Rd w 1 (.slice q l.length c) l.length (bys l)) (hp : RawParts w (.slice pq L.length pc) L) :
    Calls Tryd.prog 10 #[.slice q l.length c, .slice pq L.length pc] w fun e w' => e = .returned (.bool true) ∧ Below w.heap.size w w' := by
  obtain ⟨i0, hi, hz0, hz1, hz2⟩ := parts3 info1
  have HS := Lib.hid hS
  have HR := Lib.hid hR
  have HL := Lib.hid hl
  have HP := Lib.hid hp
  have hcap := Rd_cap hl
  have hmin : (if (300 : Int) < (l.length : Int) then (300 : Int) else (l.length : Int)) = ((min l.length 300 : Nat) : Int) := by split <;> omega
  clear hS hR hl hp
  go_enter Tryd.func10, Tryd.ntmps10
  have hx1 : Below w.heap.size w (w.alloc (.cells #[] 5)) := (Below.refl _ _).alloc (Nat.le_refl _) _
  have ho1 : Ow (w.alloc (.cells #[] 5)) w.heap.size 5 1 (.slice (some ⟨w.heap.size, 0, none⟩) 0 0) 0 [] := Ow.lit w #[] 5 1 0 w.heap.size (Nat.le_refl _) (Nat.zero_le _) rfl
  have hrd1 := (Rd_take HL.out (Nat.min_le_left l.length 300)).below hx1
  have HO1 := Lib.hid ho1
  have HX1 := Lib.hid hx1
  have HRD1 := Lib.hid hrd1
  clear hx1 ho1 hrd1
  go_wp2_with (first | (refine Rp.l_cut rfl 28 _ _ rfl 5 i0 Tryd.underlying28 hi q l.length c (min l.length 300) rfl (congrArg (Value.int .i64) hmin) (by omega) ?_) | (at_builtin; go_must (refine app_empty rfl _ _ 28 28 rfl w.heap.size 5 i0 (.int .u8 0) 1 1 Tryd.underlying28 hi hz0 hz1 hz2 rfl _ rfl HO1.out _ _ _ rfl (Rd.src Tryd.underlying28 HRD1.out (bys_one _)) (by unfold maxLen; omega) (by omega) (by simp) ?_); go_must (intro w1v w1 how1 hb1); go_must (obtain ⟨q1, c1, rfl⟩ := Ow_form how1)))
  have h01 : Below w.heap.size w w1 := HX1.out.trans (hb1.mono HX1.out.size)
  have hrk := Rd.of_ow how1
  obtain ⟨k, hk⟩ : ∃ k, k = l.take (min l.length 300) := ⟨_, rfl⟩
  have hkl : min l.length 300 = k.length := by rw [hk, List.length_take]; omega
  have hk300 : k.length ≤ 300 := by omega
  rw [← hk] at hrk
  rw [hkl] at hrk ⊢
  have HRK := Lib.hid hrk
  have HB1 := Lib.hid h01
  have HP1 : Hid (RawParts w1 (.slice pq L.length pc) L) := Lib.hid (by
    obtain ⟨vs, h1, h2⟩ := HP.out
    refine ⟨vs, h1.below h01, fun i hi => ?_⟩
    obtain ⟨q, c, e, hr⟩ := h2 i hi
    exact ⟨q, c, e, hr.below h01⟩)
  clear hk hkl hrk h01 how1 hb1 hmin HO1 HX1 HRD1 HL HP hcap
  refine (few_any _ _ L 6 300 _ HP1.out (by decide) (by decide) (by decide) (by decide)).mono ?_
  rintro e w2 ⟨v2, rfl, hown, hb2⟩
  have hll : (few L (6 : Int).toNat (300 : Int).toNat).flatten.length ≤ 1800 := few_flat L 6 300
  obtain ⟨M, hM⟩ : ∃ M, M = few L (6 : Int).toNat (300 : Int).toNat := ⟨_, rfl⟩
  rw [← hM] at hown hll
  clear hM
  have hpm := Ref.OwnP.parts hown
  obtain ⟨q2, c2, rfl⟩ : ∃ q2 c2, v2 = .slice q2 M.length c2 := by
    obtain ⟨vs, hv, _⟩ := hpm
    exact Rd_form hv
  have HPM := Lib.hid hpm
  have HB2 := Lib.hid (HB1.out.trans (hb2.mono HB1.out.size))
  have HRK2 := Lib.hid (HRK.out.below hb2)
  clear hown hb2 hpm HP1 HB1 HRK
  go_wp2_with fail
  refine Rp.region 4 [(0, true), (1, true), (2, true), (3, false)] (by kernel_rfl) (by kernel_rfl) ?_; simp only [Rp.pick, Rp.nth, List.drop_succ_cons, List.drop_zero]
  obtain ⟨wd, hwd⟩ : ∃ wd, wd = w2.drew := ⟨_, rfl⟩
  have HBD : Hid (Below w.heap.size w wd) := Lib.hid (by rw [hwd]; exact HB2.out.drew)
  have HPD : Hid (Parts wd (.slice q2 M.length c2) M) := Lib.hid (by rw [hwd]; exact HPM.out)
  have HKD : Hid (Rd wd 1 (.slice q1 k.length c1) k.length (bys k)) := Lib.hid (by rw [hwd]; exact HRK2.out)
  rw [← hwd]
  clear hwd HB2 HPM HRK2
  repeat (refine Rp.stepK rfl ?_; intro K hK; apply Exists.intro; refine ⟨?_, ?_⟩; (focus (intro x hx;  go_simp; (first | (fail) | ((try go_bits); (try go_simp); (try rfl))))); go_simp; refine hK _ ?_; clear hK K)
  refine Rp.s_str rfl 28 9 _ rfl 5 Tryd.underlying9 Tryd.underlying28 Tryd.underlying5 _ _ (k) rfl (HKD.out) ?_; intro K hK; go_simp; refine hK _ ?_; clear hK K
  repeat (refine Rp.stepK rfl ?_; intro K hK; apply Exists.intro; refine ⟨?_, ?_⟩; (focus (intro x hx;  go_simp; (first | (fail) | ((try go_bits); (try go_simp); (try rfl))))); go_simp; refine hK _ ?_; clear hK K)
  refine Rp.stepF fun K hK => ?_; go_wp2_with fail; refine (all_any _ _ M _ HPD.out (by omega)).mono ?_; rintro e w3 ⟨rfl, hb3⟩; go_wp2_with fail; refine hK _ _ hb3 ?_; clear hK K
  have HB3 := Lib.hid (HBD.out.trans (hb3.mono HBD.out.size))
  have HP3 := Lib.hid (HPD.out.below hb3)
  have HK3 := Lib.hid (HKD.out.below hb3)
  clear hb3 HBD HPD HKD
  refine Rp.done ?_; go_wp2_with fail; refine NoPanic.normal ?_; go_wp2_with fail
  refine (of_any _ _ k _ _ M _ (HS.out.below HB3.out) HK3.out HP3.out (by omega) (by omega)).mono ?_
  rintro e w4 ⟨rfl, hb4⟩
  have HB4 := Lib.hid (HB3.out.trans (hb4.mono HB3.out.size))
  have HP4 := Lib.hid (HP3.out.below hb4)
  have HK4 := Lib.hid (HK3.out.below hb4)
  clear hb4 HB3 HP3 HK3
  obtain ⟨F, hF⟩ : ∃ F, F = M.flatten := ⟨_, rfl⟩
  rw [← hF] at hll ⊢
  have HF := Lib.hid hF
  have HL := Lib.hid (hmac_length k F)
  have HI : Hid ((Tryd.prog.info? 25).map (·.size) = some (bysA (hmac k F)).size) := Lib.hid (by rw [bysA_size, hmac_length]; exact info32)
  clear hF
  go_wp2_with (refine Rg.store_row_new rfl 25 _ _ rfl (w4).heap.size rfl rfl 25 _ (bysA (hmac k F)) rfl HI.out (by rw [bysA_size, HL.out]; rfl) (bysA_one _) ?_)
  have hrow := Rg.heap_alloc_at w4 (.cells (bysA (hmac k F)) 25) w4.heap.size rfl
  have hba : Below w4.heap.size w4 (w4.alloc (.cells (bysA (hmac k F)) 25)) := (Below.refl _ _).alloc (Nat.le_refl _) _
  refine Rp.region 21 [(0, false), (1, true), (2, true), (3, true), (4, true), (5, true), (6, false), (7, true), (8, true), (9, true), (10, true), (11, true), (12, true), (13, true), (14, true), (15, true), (16, true), (18, true), (17, false), (19, true), (20, true)] (by kernel_rfl) (by kernel_rfl) ?_; simp only [Rp.pick, Rp.nth, List.drop_succ_cons, List.drop_zero]
  obtain ⟨wd, hwd⟩ : ∃ wd, wd = (w4.alloc (.cells (bysA (hmac k F)) 25)).drew := ⟨_, rfl⟩
  have hbd : Below w4.heap.size w4 wd := by rw [hwd]; exact hba.drew
  have HBD := Lib.hid (HB4.out.trans (hbd.mono HB4.out.size))
  have HPD := Lib.hid (HP4.out.below hbd)
  have HKD := Lib.hid (HK4.out.below hbd)
  have HROW : Hid (wd.heap[w4.heap.size]? = some (.cells (bysA (hmac k F)) 25)) := Lib.hid (by rw [hwd]; exact hrow)
  rw [← hwd]
  clear hwd hbd hba hrow HB4 HP4 HK4
  refine Rp.stepF fun K hK => ?_; go_wp2_with fail; refine (marks_any _ (HS.out.below HBD.out)).mono ?_; rintro e w5 ⟨rfl, hb5⟩; go_wp2_with fail; refine hK _ _ hb5 ?_; clear hK K
  have HB5 := Lib.hid (HBD.out.trans (hb5.mono HBD.out.size))
  have HP5 := Lib.hid (HPD.out.below hb5)
  have HK5 := Lib.hid (HKD.out.below hb5)
  have HR5 := Lib.hid (Rp.row_le hb5 HROW.out)
  clear hb5 HBD HPD HKD HROW
  go_simp
  repeat (refine Rp.stepK rfl ?_; intro K hK; apply Exists.intro; refine ⟨?_, ?_⟩; (focus (intro x hx;  go_simp; (first | (fail) | ((try go_bits); (try go_simp); (try rfl))))); go_simp; refine hK _ ?_; clear hK K)
  refine Rp.s_str rfl 28 9 _ rfl 5 Tryd.underlying9 Tryd.underlying28 Tryd.underlying5 _ _ (hmac k F) rfl (Rd_of_row HR5.out HL.out (by decide)) ?_; intro K hK; go_simp; refine hK _ ?_; clear hK K
  repeat (refine Rp.stepK rfl ?_; intro K hK; apply Exists.intro; refine ⟨?_, ?_⟩; (focus (intro x hx;  go_simp; (first | (fail) | ((try go_bits); (try go_simp); (try rfl))))); go_simp; refine hK _ ?_; clear hK K)
  refine Rp.stepF fun K hK => ?_; go_wp2_with fail; refine (refof_any k F _ (HR.out.below HB5.out) (by omega) (by omega)).mono ?_; rintro e w6 ⟨rfl, hb6⟩; go_wp2_with fail; refine hK _ _ hb6 ?_; clear hK K
  have HB6 := Lib.hid (HB5.out.trans (hb6.mono HB5.out.size))
  have HP6 := Lib.hid (HP5.out.below hb6)
  have HK6 := Lib.hid (HK5.out.below hb6)
  clear hb6 HB5 HP5 HK5 HR5
  go_simp
  repeat (refine Rp.stepK rfl ?_; intro K hK; apply Exists.intro; refine ⟨?_, ?_⟩; (focus (intro x hx;  go_simp; (first | (fail) | ((try go_bits); (try go_simp); (try rfl))))); go_simp; refine hK _ ?_; clear hK K)
  refine Rp.s_str rfl 28 9 _ rfl 5 Tryd.underlying9 Tryd.underlying28 Tryd.underlying5 _ _ (k) rfl (HK6.out) ?_; intro K hK; go_simp; refine hK _ ?_; clear hK K
  repeat (refine Rp.stepK rfl ?_; intro K hK; apply Exists.intro; refine ⟨?_, ?_⟩; (focus (intro x hx;  go_simp; (first | (fail) | ((try go_bits); (try go_simp); (try rfl))))); go_simp; refine hK _ ?_; clear hK K)
  refine Rp.stepF fun K hK => ?_; go_wp2_with fail; refine (all_any _ _ M _ HP6.out (by rw [← HF.out]; omega)).mono ?_; rintro e w7 ⟨rfl, hb7⟩; go_wp2_with fail; refine hK _ _ hb7 ?_; clear hK K
  have HB7 := Lib.hid (HB6.out.trans (hb7.mono HB6.out.size))
  rw [← HF.out]
  clear hb7 HB6 HP6 HK6
  go_simp
  repeat (refine Rp.stepK rfl ?_; intro K hK; apply Exists.intro; refine ⟨?_, ?_⟩; (focus (intro x hx;  go_simp; (first | (fail) | ((try go_bits); (try go_simp); (try rfl))))); go_simp; refine hK _ ?_; clear hK K)
  refine Rp.done ?_; go_wp2_with fail; refine NoPanic.normal ?_; go_wp2_with fail
  go_ret
  exact ⟨rfl, HB7.out⟩
end Ref
end Go.Proofs.YtmcjjionfmdioaaDoor
