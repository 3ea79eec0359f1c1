/- ExtractLooks: it answers true. Conditions: none beyond the bounds of bytes. -/
import Derived.Test.YtmonkggoilhngaaGreatDoorGLookE
import Derived.Test.YtmonkggoilhngaaGreatDoorGLookF
import Derived.Test.YtmonkggoilhngaaGreatDoorGStdH
import Derived.Test.YtmonkggoilhngaaGreatDoorGFindE
import Derived.Deep.CutRange
namespace Go.Proofs.YtmonkggoilhngaaGreatDoor
open Go.RowKit Bits Mem Sha
namespace Stn
open Ref (RdL All32)
set_option maxRecDepth 100000 in
set_option maxHeartbeats 4000000 in
theorem extractLooks_any {w : World} {pub : List UInt8} {qL q0 q1 : Option Addr} {cL c0 c1 : Nat} {LB X0 Y0 : List UInt8} (hT : Ab.WT Ab.gtL Ab.tabS w) (hS : Sha.Tabs w) (hp : pub.length = 32)
    (hlb : Rd w 1 (.slice qL LB.length cL) LB.length (bys LB)) (hql : Ab.CellsAt w qL) (hx : Rd w 1 (.slice q0 X0.length c0) X0.length (bys X0)) (hy : Rd w 1 (.slice q1 Y0.length c1) Y0.length (bys Y0)) (hq0 : Ab.CellsAt w q0) (hq1 : Ab.CellsAt w q1) :
    Calls Tryz.prog 4 #[.agg (bysA pub), .slice qL LB.length cL, .agg #[.slice q0 X0.length c0, .slice q1 Y0.length c1]] w fun e w' => e = .returned (.bool true) ∧ Below w.heap.size w w' := by
  obtain ⟨i0, hi0, hz0, hz1, hz2⟩ := parts3M info8b
  obtain ⟨wa, hwa⟩ : ∃ wa, wa = ((w.alloc (.cells (bysA pub) 22)).alloc (.cells #[.slice q0 X0.length c0, .slice q1 Y0.length c1] 24)).alloc (.cells #[.int .u8 116] 5) := ⟨_, rfl⟩
  have hba : Below w.heap.size w wa := by rw [hwa]; exact (((Below.refl _ _).alloc (Nat.le_refl _) _).alloc (by simp) _).alloc (by simp; try omega) _
  have hra0 : wa.heap[w.heap.size]? = some (.cells (bysA pub) 22 (0, 0)) := by rw [hwa]; exact (Rg.heap_alloc_past _ _ _ (by simp; try omega)).trans ((Rg.heap_alloc_past _ _ _ (by simp)).trans (Rg.heap_alloc_at w _ _ rfl))
  have hra1 : wa.heap[w.heap.size + 1]? = some (.cells #[.slice q0 X0.length c0, .slice q1 Y0.length c1] 24 (0, 0)) := by rw [hwa]; exact (Rg.heap_alloc_past _ _ _ (by simp)).trans (Rg.heap_alloc_at _ _ _ (by simp))
  have hra2 : wa.heap[w.heap.size + 1 + 1]? = some (.cells #[.int .u8 116] 5 (0, 0)) := by rw [hwa]; exact Rg.heap_alloc_at _ _ _ (by simp)
  have HBA := Lib.hid hba
  have HRA0 := Lib.hid hra0
  have HRA1 := Lib.hid hra1
  have HRA2 := Lib.hid hra2
  have HWA := Lib.hid hwa
  have HT := Lib.hid hT
  have HS := Lib.hid hS
  have HX0 := Lib.hid hx
  have HY0 := Lib.hid hy
  have HQ := Lib.hid hq0
  have HQ' := Lib.hid hq1
  have HP := Lib.hid hp
  have HLB := Lib.hid hlb
  have HQL := Lib.hid hql
  obtain ⟨m0, hm0⟩ : ∃ m, m = min X0.length 3000 := ⟨_, rfl⟩
  obtain ⟨m1, hm1⟩ : ∃ m, m = min Y0.length 3000 := ⟨_, rfl⟩
  have hmin0 : (if (3000 : Int) < X0.length then (3000 : Int) else (X0.length : Int)) = (m0 : Int) := by rw [hm0]; split <;> omega
  have hmin1 : (if (3000 : Int) < Y0.length then (3000 : Int) else (Y0.length : Int)) = (m1 : Int) := by rw [hm1]; split <;> omega
  have hk0 : m0 ≤ c0 := by have := (Rd_cap hx).1; omega
  have hk1 : m1 ≤ c1 := by have := (Rd_cap hy).1; omega
  have hle0 : m0 ≤ X0.length := by omega
  have hle1 : m1 ≤ Y0.length := by omega
  have hll0 : m0 ≤ 3000 := by omega
  have hll1 : m1 ≤ 3000 := by omega
  obtain ⟨m2, hm2⟩ : ∃ m, m = min LB.length 40 := ⟨_, rfl⟩
  have hmin2 : (if (40 : Int) < LB.length then (40 : Int) else (LB.length : Int)) = (m2 : Int) := by rw [hm2]; split <;> omega
  have hk2 : m2 ≤ cL := by have := (Rd_cap hlb).1; omega
  have hle2 : m2 ≤ LB.length := by omega
  have hll2 : m2 ≤ 40 := by omega
  clear hwa hba hra0 hra1 hra2 hT hS hp hx hy hq0 hq1 hm0 hm1 hlb hql hm2
  go_enter Tryz.func4, Tryz.ntmps4
  go_upto_region 1 with fail
  go_upto_region 2 with (first | (rw [← HWA.out]; refine conv_markT rfl 23 _ rfl 5 Tryz.underlying23 Tryz.underlying5 (w.heap.size + 1 + 1) 1 1 rfl #[.int .u8 116] HRA2.out ?_; intro w1 hrow hgr; have HROW := Lib.hid hrow; have HGR := Lib.hid hgr; clear hrow hgr))
  have hsz : w.heap.size + 1 + 1 < wa.heap.size := lt_of_heap HRA2.out
  have hb1 : Below w.heap.size w w1 := ⟨HGR.out.os.trans HBA.out.os, HGR.out.tape.trans HBA.out.tape, HGR.out.output.trans HBA.out.output, Nat.le_trans HBA.out.size HGR.out.size, fun k hk => (HGR.out.block k (by omega) (fun e => by cases e; omega)).trans (HBA.out.block k hk)⟩
  have hr0 : w1.heap[w.heap.size]? = some (.cells (bysA pub) 22 (0, 0)) := (HGR.out.block _ (by omega) (fun e => by have := Option.some.inj e; omega)).trans HRA0.out
  have hr1 : w1.heap[w.heap.size + 1]? = some (.cells #[.slice q0 X0.length c0, .slice q1 Y0.length c1] 24 (0, 0)) := (HGR.out.block _ (by omega) (fun e => by have := Option.some.inj e; omega)).trans HRA1.out
  have hid1 : Rd w1 1 (.slice (some ⟨w.heap.size + 1 + 1, 0, none⟩) 1 1) 1 (bys [116]) := ⟨rfl, .inr ⟨_, 0, 1, rfl, lt_of_heap HROW.out, Nat.le_refl _, by decide, fun j u hu => by
    rw [Nat.zero_add, cell_of_row _ _ _ _ _ _ HROW.out, ← Array.getElem?_toList]
    exact hu⟩⟩
  have HX : Hid (∃ X : List UInt8, X.length = m0 ∧ Rd w1 1 (.slice q0 X.length c0) X.length (bys X) ∧ X.length ≤ 1000000) := Lib.hid ⟨X0.take m0, by rw [List.length_take]; omega, by
    rw [List.length_take, show min m0 X0.length = m0 by omega]
    exact (Rd_take HX0.out (by omega)).below hb1, by rw [List.length_take]; omega⟩
  have HY : Hid (∃ X : List UInt8, X.length = m1 ∧ Rd w1 1 (.slice q1 X.length c1) X.length (bys X) ∧ X.length ≤ 1000000) := Lib.hid ⟨Y0.take m1, by rw [List.length_take]; omega, by
    rw [List.length_take, show min m1 Y0.length = m1 by omega]
    exact (Rd_take HY0.out (by omega)).below hb1, by rw [List.length_take]; omega⟩
  have HLX : Hid (∃ X : List UInt8, X.length = m2 ∧ Rd w1 1 (.slice qL X.length cL) X.length (bys X) ∧ X.length ≤ 1000000) := Lib.hid ⟨LB.take m2, by rw [List.length_take]; omega, by
    rw [List.length_take, show min m2 LB.length = m2 by omega]
    exact (Rd_take HLB.out (by omega)).below hb1, by rw [List.length_take]; omega⟩
  have HQL1 := Lib.hid (HQL.out.below hb1)
  have HQ0 := Lib.hid (HQ.out.below hb1)
  have HQ1 := Lib.hid (HQ'.out.below hb1)
  have HB1 := Lib.hid hb1
  have HR0 := Lib.hid hr0
  have HR1 := Lib.hid hr1
  have HI1 := Lib.hid hid1
  have HT1 := Lib.hid (HT.out.past hb1)
  have HS1 := Lib.hid (HS.out.below hb1)
  have hcc0 : w1.cell? ⟨w.heap.size + 1, 0, none⟩ = some (.slice q0 X0.length c0) := (cell_of_row _ _ _ _ _ _ hr1).trans rfl
  have HU0 : Hid ((Instr.loadAt 23 (.pointer (some ⟨w.heap.size + 1, 0, none⟩))).run Tryz.prog w1 = .ok (.slice q0 X0.length c0) w1) := Lib.hid (load_rowU hcc0)
  clear hsz hb1 hr0 hr1 hid1 hcc0 HX0 HY0 HQ HQ' HLB HQL HGR HROW HRA0 HRA1 HRA2 HWA HBA HT HS
  go_upto_region 3 with (rw [hmin2]; refine l_cut rfl 23 _ _ rfl 5 i0 Tryz.underlying23 hi0 qL LB.length cL m2 rfl rfl hk2 ?_)
  obtain ⟨LX, hLm, hLr, hLl⟩ := HLX.out
  rw [← hLm]
  have HLR1 := Lib.hid hLr
  have HLL := Lib.hid hLl
  clear hLr hLl hLm HLX hmin2 hk2 hle2 hll2
  go_wp2_with (first | (refine l_load rfl _ _ rfl _ HU0.out ?_) | (rw [hmin0]; refine l_cut rfl 23 _ _ rfl 5 i0 Tryz.underlying23 hi0 q0 X0.length c0 m0 rfl rfl hk0 ?_))
  obtain ⟨X, hXm, hXr, hXl⟩ := HX.out
  rw [← hXm]
  refine (told_look HT1.out hXr HQ0.out hXl).mono ?_
  rintro e w2 ⟨A0, z0, rfl, hA0, hb2⟩
  have HIA0 : Hid ((Tryz.prog.info? 45).map (·.size) = some A0.size) := Lib.hid (by rw [hA0.size]; exact infoAns)
  have HSA0 : Hid ((Tryz.zeroCells45).size = A0.size) := Lib.hid (by rw [hA0.size]; exact zA_size)
  have HOA0 := Lib.hid hA0.1
  obtain ⟨w3, hw3⟩ : ∃ w3, w3 = w2.alloc (.cells A0 45) := ⟨_, rfl⟩
  have hb3 : Below w2.heap.size w2 w3 := by rw [hw3]; exact (Below.refl _ _).alloc (Nat.le_refl _) _
  have hb13 : Below w1.heap.size w1 w3 := hb2.trans (hb3.mono hb2.size)
  have HB3 := Lib.hid (HB1.out.trans (hb13.mono HB1.out.size))
  have HA0 := Lib.hid (hA0.below hb3)
  have HR03 := Lib.hid (Rp.row_le hb13 HR0.out)
  have hr13 := Rp.row_le hb13 HR1.out
  have HI3 := Lib.hid (HI1.out.below hb13)
  have HT3 := Lib.hid (HT1.out.past hb13)
  have HS3 := Lib.hid (HS1.out.below hb13)
  have HQ13 := Lib.hid (HQ1.out.below hb13)
  have HLR3 := Lib.hid (HLR1.out.below hb13)
  have HQL3 := Lib.hid (HQL1.out.below hb13)
  have HY3 : Hid (∃ X : List UInt8, X.length = m1 ∧ Rd w3 1 (.slice q1 X.length c1) X.length (bys X) ∧ X.length ≤ 1000000) := Lib.hid (by
    obtain ⟨Y, h1, h2, h3⟩ := HY.out
    exact ⟨Y, h1, h2.below hb13, h3⟩)
  have HRA0 : Hid (w3.heap[w2.heap.size]? = some (.cells A0 45 (0, 0))) := Lib.hid (by rw [hw3]; exact heap_alloc_new w2 _)
  have hcc1 : w3.cell? ⟨w.heap.size + 1, 1, none⟩ = some (.slice q1 Y0.length c1) := (cell_of_row _ _ _ _ _ _ hr13).trans rfl
  have HU1 : Hid ((Instr.loadAt 23 (.pointer (some ⟨w.heap.size + 1, 1, none⟩))).run Tryz.prog w3 = .ok (.slice q1 Y0.length c1) w3) := Lib.hid (load_rowU hcc1)
  have HW3 := Lib.hid hw3
  clear hw3 hb3 hb13 hr13 hcc1 hA0 hb2 HX hXm hXr hXl HU0 HQ0 HY HB1 HR0 HR1 HI1 HT1 HS1 HQ1 HLR1 HQL1
  go_upto_region 4 with (refine Rg.store_row_new rfl 45 _ _ rfl w2.heap.size rfl rfl 45 _ A0 rfl HIA0.out HSA0.out HOA0.out ?_)
  rw [← HW3.out]
  obtain ⟨a0, ha0⟩ : ∃ a0, a0 = w2.heap.size := ⟨_, rfl⟩
  rw [← ha0] at HRA0 ⊢
  clear HW3 ha0 HIA0 HSA0 HOA0
  go_wp2_with (first | (refine l_load rfl _ _ rfl _ HU1.out ?_) | (rw [hmin1]; refine l_cut rfl 23 _ _ rfl 5 i0 Tryz.underlying23 hi0 q1 Y0.length c1 m1 rfl rfl hk1 ?_))
  obtain ⟨Y, hYm, hYr, hYl⟩ := HY3.out
  rw [← hYm]
  refine (told_look HT3.out hYr HQ13.out hYl).mono ?_
  rintro e w4 ⟨A1, z1, rfl, hA1, hb4⟩
  have HIA1 : Hid ((Tryz.prog.info? 45).map (·.size) = some A1.size) := Lib.hid (by rw [hA1.size]; exact infoAns)
  have HSA1 : Hid ((Tryz.zeroCells45).size = A1.size) := Lib.hid (by rw [hA1.size]; exact zA_size)
  have HOA1 := Lib.hid hA1.1
  obtain ⟨w5, hw5⟩ : ∃ w5, w5 = w4.alloc (.cells A1 45) := ⟨_, rfl⟩
  have hb5 : Below w4.heap.size w4 w5 := by rw [hw5]; exact (Below.refl _ _).alloc (Nat.le_refl _) _
  have hb35 : Below w3.heap.size w3 w5 := hb4.trans (hb5.mono hb4.size)
  have HB5 := Lib.hid (HB3.out.trans (hb35.mono HB3.out.size))
  have HA05 := Lib.hid (HA0.out.below hb35)
  have HA1 := Lib.hid (hA1.below hb5)
  have HR05 := Lib.hid (Rp.row_le hb35 HR03.out)
  have HI5 := Lib.hid (HI3.out.below hb35)
  have HT5 := Lib.hid (HT3.out.past hb35)
  have HS5 := Lib.hid (HS3.out.below hb35)
  have HLR5 := Lib.hid (HLR3.out.below hb35)
  have HQL5 := Lib.hid (HQL3.out.below hb35)
  have HRA05 := Lib.hid (Rp.row_le hb35 HRA0.out)
  have HRA1 : Hid (w5.heap[w4.heap.size]? = some (.cells A1 45 (0, 0))) := Lib.hid (by rw [hw5]; exact heap_alloc_new w4 _)
  have HW5 := Lib.hid hw5
  clear hw5 hb5 hb35 hA1 hb4 HY3 hYm hYr hYl HU1 HQ13 HB3 HR03 HI3 HT3 HS3 HLR3 HQL3 HRA0 HA0 hmin0 hmin1 hk0 hk1 hle0 hle1 hll0 hll1
  go_upto_region 5 with (refine Rg.store_row_new rfl 45 _ _ rfl w4.heap.size rfl rfl 45 _ A1 rfl HIA1.out HSA1.out HOA1.out ?_)
  rw [← HW5.out]
  obtain ⟨a1, ha1⟩ : ∃ a1, a1 = w4.heap.size := ⟨_, rfl⟩
  rw [← ha1] at HRA1 ⊢
  clear HW5 ha1 HIA1 HSA1 HOA1
  -- what the walk knows from here on: w5, a0, a1
  go_wp2_with fail
  refine (Fnd.finds_any w5 HS5.out).mono ?_
  rintro e w6 ⟨rfl, hb6⟩
  have HB6 := Lib.hid (HB5.out.trans (hb6.mono HB5.out.size))
  have HA06 := Lib.hid (HA05.out.below hb6)
  have HA16 := Lib.hid (HA1.out.below hb6)
  have HR06 := Lib.hid (Rp.row_le hb6 HR05.out)
  have HI6 := Lib.hid (HI5.out.below hb6)
  have HT6 := Lib.hid (HT5.out.past hb6)
  have HS6 := Lib.hid (HS5.out.below hb6)
  have HLR6 := Lib.hid (HLR5.out.below hb6)
  have HQL6 := Lib.hid (HQL5.out.below hb6)
  have HRA06 := Lib.hid (Rp.row_le hb6 HRA05.out)
  have HRA16 := Lib.hid (Rp.row_le hb6 HRA1.out)
  clear hb6 HB5 HA05 HA1 HR05 HI5 HT5 HS5 HLR5 HQL5 HRA05 HRA1
  by_cases hz0 : z0 = 0
  · subst hz0
    by_cases hz1' : z1 = 0
    · subst hz1'
      go_upto_region 7 with fail
      obtain ⟨_, F0, U0, D0, qf0, cf0, qv0, cv0, f0, qr0, cr0, R0, hAI0, hF0, C0, qs0, cs0, S0, t0, k0, v0, e0, r0, sg0, lg0, ql0, cl0, L0, hU0⟩ := HA06.out
      obtain ⟨_, F1, U1, D1, qf1, cf1, qv1, cv1, f1, qr1, cr1, R1, hAI1, hF1, C1, qs1, cs1, S1, t1, k1, v1, e1, r1, sg1, lg1, ql1, cl1, L1, hU1⟩ := HA16.out
      have HST0 := Lib.hid (look_any (id := [116]) HT6.out HS6.out HP.out HI6.out (by decide) hAI0 hF0 hU0 (fun x hx => ixends_any (HT6.out.past hx) hAI0.typ (HLR6.out.below hx) (HQL6.out.below hx) HLL.out))
      have HLP : Hid ((Instr.loadAt 22 (.pointer (some ⟨w.heap.size, 0, none⟩))).run Tryz.prog w6 = .ok (.agg (bysA pub)) w6) := Lib.hid ((PartAt.self _).load HR06.out Tryz.underlying22 rfl (info32r pub HP.out))
      have HLA : Hid ((Instr.loadAt 45 (.pointer (some ⟨a0, 0, none⟩))).run Tryz.prog w6 = .ok (.agg A0) w6) := Lib.hid ((PartAt.self _).load HRA06.out Tryz.underlying45 rfl (by rw [hAI0.size]; exact infoAns))
      have HAI0 := Lib.hid hAI0
      have HAI1 := Lib.hid hAI1
      have HF0 := Lib.hid hF0
      have HF1 := Lib.hid hF1
      have HU0 := Lib.hid hU0
      have HU1 := Lib.hid hU1
      clear hAI0 hAI1 hF0 hF1 hU0 hU1 HA06 HA16
      go_wp2_with (first | (refine l_load rfl _ _ rfl _ HLP.out ?_) | (refine l_load rfl _ _ rfl _ HLA.out ?_))
      refine HST0.out.mono ?_
      rintro e w7 ⟨⟨ns0, rt0, ep0, lk0, at0, ix0, pr0, vr0, qt0, vl0, ct0, y0, rfl, hrt0, hlk0, hix0, htr0, htl0, hyp0⟩, hb7⟩
      obtain ⟨E0, hE0⟩ : ∃ E, E = seenL ns0 rt0 ep0 lk0 at0 ix0 pr0 vr0 (.slice qt0 (List.length vl0) ct0) := ⟨_, rfl⟩
      rw [← hE0]
      have HE0 := Lib.hid hE0
      have HRT0 := Lib.hid hrt0
      have HLK0 := Lib.hid hlk0
      have HYP0 := Lib.hid hyp0
      have HIX0 := Lib.hid hix0
      have HIE0 : Hid ((Tryz.prog.info? 50).map (·.size) = some E0.size) := Lib.hid (by rw [hE0, seenL_size hrt0 hlk0 hix0]; exact infoSeen)
      have HSE0 : Hid ((Tryz.zeroCells50).size = E0.size) := Lib.hid (by rw [hE0, zeroL, seenO_size, seenL_size hrt0 hlk0 hix0])
      have HOE0 : Hid (E0.all (·.oneCell') = true) := Lib.hid (by rw [hE0]; exact seenL_one rfl)
      obtain ⟨w8, hw8⟩ : ∃ w8, w8 = w7.alloc (.cells E0 50) := ⟨_, rfl⟩
      have hb8 : Below w7.heap.size w7 w8 := by rw [hw8]; exact (Below.refl _ _).alloc (Nat.le_refl _) _
      have hb68 : Below w6.heap.size w6 w8 := hb7.trans (hb8.mono hb7.size)
      have HB8 := Lib.hid (HB6.out.trans (hb68.mono HB6.out.size))
      have HR08 := Lib.hid (Rp.row_le hb68 HR06.out)
      have HI8 := Lib.hid (HI6.out.below hb68)
      have HT8 := Lib.hid (HT6.out.past hb68)
      have HS8 := Lib.hid (HS6.out.below hb68)
      have HRA08 := Lib.hid (Rp.row_le hb68 HRA06.out)
      have HRA18 := Lib.hid (Rp.row_le hb68 HRA16.out)
      have HF08 := Lib.hid (HF0.out.below hb68)
      have HF18 := Lib.hid (HF1.out.below hb68)
      have HAI08 := Lib.hid (HAI0.out.below hb68)
      have HAI18 := Lib.hid (HAI1.out.below hb68)
      have HLR8 := Lib.hid (HLR6.out.below hb68)
      have HQL8 := Lib.hid (HQL6.out.below hb68)
      have HTR08 := Lib.hid (htr0.below hb8)
      have HTL0 := Lib.hid htl0
      have HU08 := Lib.hid (HU0.out.below hb68)
      have HU18 := Lib.hid (HU1.out.below hb68)
      have HRE0 : Hid (w8.heap[w7.heap.size]? = some (.cells E0 50 (0, 0))) := Lib.hid (by rw [hw8]; exact heap_alloc_new w7 _)
      have HW8 := Lib.hid hw8
      clear hE0 hrt0 hlk0 hix0 htr0 hyp0 hb7 hw8 hb8 hb68 HST0 HLP HLA HB6 HR06 HI6 HT6 HS6 HRA06 HRA16 HF0 HF1 HU0 HU1 HAI0 HAI1 HLR6 HQL6 htl0
      go_upto_region 8 with (refine Rg.store_row_new rfl 50 _ _ rfl w7.heap.size rfl rfl 50 _ E0 rfl HIE0.out HSE0.out HOE0.out ?_)
      rw [← HW8.out]
      obtain ⟨b0, hb0⟩ : ∃ b0, b0 = w7.heap.size := ⟨_, rfl⟩
      rw [← hb0] at HRE0 ⊢
      clear HW8 hb0 HIE0 HSE0 HOE0
      have HST1 := Lib.hid (look_any (id := [116]) HT8.out HS8.out HP.out HI8.out (by decide) HAI18.out HF18.out HU18.out (fun x hx => ixends_any (HT8.out.past hx) HAI18.out.typ (HLR8.out.below hx) (HQL8.out.below hx) HLL.out))
      have HLP : Hid ((Instr.loadAt 22 (.pointer (some ⟨w.heap.size, 0, none⟩))).run Tryz.prog w8 = .ok (.agg (bysA pub)) w8) := Lib.hid ((PartAt.self _).load HR08.out Tryz.underlying22 rfl (info32r pub HP.out))
      have HLA : Hid ((Instr.loadAt 45 (.pointer (some ⟨a1, 0, none⟩))).run Tryz.prog w8 = .ok (.agg A1) w8) := Lib.hid ((PartAt.self _).load HRA18.out Tryz.underlying45 rfl (by rw [HAI18.out.size]; exact infoAns))
      go_wp2_with (first | (refine l_load rfl _ _ rfl _ HLP.out ?_) | (refine l_load rfl _ _ rfl _ HLA.out ?_))
      refine HST1.out.mono ?_
      rintro e w9 ⟨⟨ns1, rt1, ep1, lk1, at1, ix1, pr1, vr1, qt1, vl1, ct1, y1, rfl, hrt1, hlk1, hix1, htr1, htl1, hyp1⟩, hb9⟩
      obtain ⟨E1, hE1⟩ : ∃ E, E = seenL ns1 rt1 ep1 lk1 at1 ix1 pr1 vr1 (.slice qt1 (List.length vl1) ct1) := ⟨_, rfl⟩
      rw [← hE1]
      have HE1 := Lib.hid hE1
      have HRT1 := Lib.hid hrt1
      have HLK1 := Lib.hid hlk1
      have HYP1 := Lib.hid hyp1
      have HIX1 := Lib.hid hix1
      have HIE1 : Hid ((Tryz.prog.info? 50).map (·.size) = some E1.size) := Lib.hid (by rw [hE1, seenL_size hrt1 hlk1 hix1]; exact infoSeen)
      have HSE1 : Hid ((Tryz.zeroCells50).size = E1.size) := Lib.hid (by rw [hE1, zeroL, seenO_size, seenL_size hrt1 hlk1 hix1])
      have HOE1 : Hid (E1.all (·.oneCell') = true) := Lib.hid (by rw [hE1]; exact seenL_one rfl)
      obtain ⟨w10, hw10⟩ : ∃ w10, w10 = w9.alloc (.cells E1 50) := ⟨_, rfl⟩
      have hb10 : Below w9.heap.size w9 w10 := by rw [hw10]; exact (Below.refl _ _).alloc (Nat.le_refl _) _
      have hb810 : Below w8.heap.size w8 w10 := hb9.trans (hb10.mono hb9.size)
      have HB10 := Lib.hid (HB8.out.trans (hb810.mono HB8.out.size))
      have HI10 := Lib.hid (HI8.out.below hb810)
      have HS10 := Lib.hid (HS8.out.below hb810)
      have HRA010 := Lib.hid (Rp.row_le hb810 HRA08.out)
      have HRA110 := Lib.hid (Rp.row_le hb810 HRA18.out)
      have HF010 := Lib.hid (HF08.out.below hb810)
      have HF110 := Lib.hid (HF18.out.below hb810)
      have HAI010 := Lib.hid (HAI08.out.below hb810)
      have HAI110 := Lib.hid (HAI18.out.below hb810)
      have HTR010 := Lib.hid (HTR08.out.below hb810)
      have HTR110 := Lib.hid (htr1.below hb10)
      have HTL1 := Lib.hid htl1
      have HU010 := Lib.hid (HU08.out.below hb810)
      have HU110 := Lib.hid (HU18.out.below hb810)
      have hre0 := Rp.row_le hb810 HRE0.out
      have hre1 : w10.heap[w9.heap.size]? = some (.cells E1 50 (0, 0)) := by rw [hw10]; exact heap_alloc_new w9 _
      have HW10 := Lib.hid hw10
      have HRE1 := Lib.hid hre1
      clear hE1 hrt1 hlk1 hix1 htr1 hyp1 hb9 hw10 hb10 hb810 HST1 HLP HLA HB8 HR08 HI8 HT8 HS8 HRA08 HRA18 HF08 HF18 HU08 HU18 HAI08 HAI18 HLR8 HQL8 HTR08 HRE0 hre1 htl1
      go_upto_region 9 with (refine Rg.store_row_new rfl 50 _ _ rfl w9.heap.size rfl rfl 50 _ E1 rfl HIE1.out HSE1.out HOE1.out ?_)
      rw [← HW10.out]
      obtain ⟨b1, hb1⟩ : ∃ b1, b1 = w9.heap.size := ⟨_, rfl⟩
      rw [← hb1] at HRE1 ⊢
      clear HW10 hb1 HIE1 HSE1 HOE1
      have hre1 := HRE1.out
      have HLR0 : Hid ((Instr.loadAt 22 (.pointer (some ⟨b0, 1, none⟩))).run Tryz.prog w10 = .ok (.agg (bysA rt0)) w10) := Lib.hid (PartAt.load (by rw [HE0.out]; exact seenL_rootP) hre0 Tryz.underlying22 rfl (info32r rt0 HRT0.out))
      have HLE0 : Hid ((Instr.loadAt 3 (.pointer (some ⟨b0, 34, none⟩))).run Tryz.prog w10 = .ok (.int .i64 ep0) w10) := Lib.hid (load_rowI ((cell_of_row _ _ _ _ _ _ hre0).trans (by rw [HE0.out]; exact (seenL_at HRT0.out HLK0.out HIX0.out).1)))
      have HLL0 : Hid ((Instr.loadAt 22 (.pointer (some ⟨b0, 35, none⟩))).run Tryz.prog w10 = .ok (.agg (bysA lk0)) w10) := Lib.hid (PartAt.load (by rw [HE0.out]; exact seenL_linkP HRT0.out) hre0 Tryz.underlying22 rfl (info32r lk0 HLK0.out))
      have HLA0 : Hid ((Instr.loadAt 3 (.pointer (some ⟨b0, 67, none⟩))).run Tryz.prog w10 = .ok (.int .i64 at0) w10) := Lib.hid (load_rowI ((cell_of_row _ _ _ _ _ _ hre0).trans (by rw [HE0.out]; exact (seenL_at HRT0.out HLK0.out HIX0.out).2.1)))
      have HLI0 : Hid ((Instr.loadAt 22 (.pointer (some ⟨b0, 68, none⟩))).run Tryz.prog w10 = .ok (.agg (bysA ix0)) w10) := Lib.hid (PartAt.load (by rw [HE0.out]; exact seenL_ixP HRT0.out HLK0.out) hre0 Tryz.underlying22 rfl (info32r ix0 HIX0.out))
      have HLP0 : Hid ((Instr.loadAt 4 (.pointer (some ⟨b0, 100, none⟩))).run Tryz.prog w10 = .ok (.bool pr0) w10) := Lib.hid (load_rowB ((cell_of_row _ _ _ _ _ _ hre0).trans (by rw [HE0.out]; exact (seenL_at HRT0.out HLK0.out HIX0.out).2.2.1)))
      have HLV0 : Hid ((Instr.loadAt 3 (.pointer (some ⟨b0, 101, none⟩))).run Tryz.prog w10 = .ok (.int .i64 vr0) w10) := Lib.hid (load_rowI ((cell_of_row _ _ _ _ _ _ hre0).trans (by rw [HE0.out]; exact (seenL_at HRT0.out HLK0.out HIX0.out).2.2.2.1)))
      have HLT0 : Hid ((Instr.loadAt 23 (.pointer (some ⟨b0, 102, none⟩))).run Tryz.prog w10 = .ok (.slice qt0 vl0.length ct0) w10) := Lib.hid (load_rowU ((cell_of_row _ _ _ _ _ _ hre0).trans (by rw [HE0.out]; exact (seenL_at HRT0.out HLK0.out HIX0.out).2.2.2.2)))
      have HCX0 : Hid ((convert 23 9 (.slice qt0 vl0.length ct0)).run Tryz.prog w10 = .ok (.string ⟨vl0.toArray⟩) w10) := Lib.hid (run_conv_str (P := Tryz.prog) HTR010.out 9 23 5 Tryz.underlying9 Tryz.underlying23 Tryz.underlying5)
      have HLR1 : Hid ((Instr.loadAt 22 (.pointer (some ⟨b1, 1, none⟩))).run Tryz.prog w10 = .ok (.agg (bysA rt1)) w10) := Lib.hid (PartAt.load (by rw [HE1.out]; exact seenL_rootP) hre1 Tryz.underlying22 rfl (info32r rt1 HRT1.out))
      have HLE1 : Hid ((Instr.loadAt 3 (.pointer (some ⟨b1, 34, none⟩))).run Tryz.prog w10 = .ok (.int .i64 ep1) w10) := Lib.hid (load_rowI ((cell_of_row _ _ _ _ _ _ hre1).trans (by rw [HE1.out]; exact (seenL_at HRT1.out HLK1.out HIX1.out).1)))
      have HLL1 : Hid ((Instr.loadAt 22 (.pointer (some ⟨b1, 35, none⟩))).run Tryz.prog w10 = .ok (.agg (bysA lk1)) w10) := Lib.hid (PartAt.load (by rw [HE1.out]; exact seenL_linkP HRT1.out) hre1 Tryz.underlying22 rfl (info32r lk1 HLK1.out))
      have HLA1 : Hid ((Instr.loadAt 3 (.pointer (some ⟨b1, 67, none⟩))).run Tryz.prog w10 = .ok (.int .i64 at1) w10) := Lib.hid (load_rowI ((cell_of_row _ _ _ _ _ _ hre1).trans (by rw [HE1.out]; exact (seenL_at HRT1.out HLK1.out HIX1.out).2.1)))
      have HLI1 : Hid ((Instr.loadAt 22 (.pointer (some ⟨b1, 68, none⟩))).run Tryz.prog w10 = .ok (.agg (bysA ix1)) w10) := Lib.hid (PartAt.load (by rw [HE1.out]; exact seenL_ixP HRT1.out HLK1.out) hre1 Tryz.underlying22 rfl (info32r ix1 HIX1.out))
      have HLP1 : Hid ((Instr.loadAt 4 (.pointer (some ⟨b1, 100, none⟩))).run Tryz.prog w10 = .ok (.bool pr1) w10) := Lib.hid (load_rowB ((cell_of_row _ _ _ _ _ _ hre1).trans (by rw [HE1.out]; exact (seenL_at HRT1.out HLK1.out HIX1.out).2.2.1)))
      have HLV1 : Hid ((Instr.loadAt 3 (.pointer (some ⟨b1, 101, none⟩))).run Tryz.prog w10 = .ok (.int .i64 vr1) w10) := Lib.hid (load_rowI ((cell_of_row _ _ _ _ _ _ hre1).trans (by rw [HE1.out]; exact (seenL_at HRT1.out HLK1.out HIX1.out).2.2.2.1)))
      have HLT1 : Hid ((Instr.loadAt 23 (.pointer (some ⟨b1, 102, none⟩))).run Tryz.prog w10 = .ok (.slice qt1 vl1.length ct1) w10) := Lib.hid (load_rowU ((cell_of_row _ _ _ _ _ _ hre1).trans (by rw [HE1.out]; exact (seenL_at HRT1.out HLK1.out HIX1.out).2.2.2.2)))
      have HCX1 : Hid ((convert 23 9 (.slice qt1 vl1.length ct1)).run Tryz.prog w10 = .ok (.string ⟨vl1.toArray⟩) w10) := Lib.hid (run_conv_str (P := Tryz.prog) HTR110.out 9 23 5 Tryz.underlying9 Tryz.underlying23 Tryz.underlying5)
      obtain ⟨br, hbr⟩ : ∃ b, (rt0 == rt1) = b := ⟨_, rfl⟩
      have HQR : Hid (∀ x, (Op.equalIn 10000 22 (.agg (bysA rt0)) (.agg (bysA rt1))).run Tryz.prog x = .ok br x) := Lib.hid (fun x => by
        rw [← hbr]
        exact run_equalIn_bytes (P := Tryz.prog) x 9998 22 5 32 Tryz.underlying22 Tryz.underlying5 Ref.size_u8 rt0 rt1 HRT0.out HRT1.out)
      have HBR := Lib.hid hbr
      obtain ⟨bl, hbl⟩ : ∃ b, (lk0 == lk1) = b := ⟨_, rfl⟩
      have HQL : Hid (∀ x, (Op.equalIn 10000 22 (.agg (bysA lk0)) (.agg (bysA lk1))).run Tryz.prog x = .ok bl x) := Lib.hid (fun x => by
        rw [← hbl]
        exact run_equalIn_bytes (P := Tryz.prog) x 9998 22 5 32 Tryz.underlying22 Tryz.underlying5 Ref.size_u8 lk0 lk1 HLK0.out HLK1.out)
      have HBL := Lib.hid hbl
      obtain ⟨bi, hbi⟩ : ∃ b, (ix0 == ix1) = b := ⟨_, rfl⟩
      have HQI : Hid (∀ x, (Op.equalIn 10000 22 (.agg (bysA ix0)) (.agg (bysA ix1))).run Tryz.prog x = .ok bi x) := Lib.hid (fun x => by
        rw [← hbi]
        exact run_equalIn_bytes (P := Tryz.prog) x 9998 22 5 32 Tryz.underlying22 Tryz.underlying5 Ref.size_u8 ix0 ix1 HIX0.out HIX1.out)
      have HBI := Lib.hid hbi
      obtain ⟨SX0, hSX0⟩ : ∃ SX : ByteArray, SX = ⟨vl0.toArray⟩ := ⟨_, rfl⟩
      obtain ⟨SX1, hSX1⟩ : ∃ SX : ByteArray, SX = ⟨vl1.toArray⟩ := ⟨_, rfl⟩
      rw [← hSX0] at HCX0
      rw [← hSX1] at HCX1
      obtain ⟨bs, hbs⟩ : ∃ b, (SX0.toList == SX1.toList) = b := ⟨_, rfl⟩
      have HBS : Hid (bs = false → vl0 ≠ vl1) := Lib.hid (fun h e => by
        rw [h, hSX0, hSX1, e, beq_self_eq_true] at hbs
        cases hbs)
      have HBS2 := Lib.hid hbs
      clear hre0 hre1 hbr hbl hbi hSX0 hSX1 hbs
      by_cases hy0 : y0 = 0
      · subst hy0
        by_cases hy1 : y1 = 0
        · subst hy1
          cases br with
          | false =>
            go_wp2_with (first | refine l_loadG 22 _ rfl (.pointer (some ⟨b0, 1, none⟩)) rfl _ HLR0.out (by kernel_rfl) ?_ | refine l_loadG 22 _ rfl (.pointer (some ⟨b1, 1, none⟩)) rfl _ HLR1.out (by kernel_rfl) ?_)
            rw [HQR.out]
            refine (show Oper.upon _ _ _ _ _ (.ok (Next.value (.bool true)) w10) from ?_)
            go_wp2_with fail
            go_ret
            exact ⟨rfl, HB10.out⟩
          | true =>
            go_wp2_with (first | refine l_loadG 22 _ rfl (.pointer (some ⟨b0, 1, none⟩)) rfl _ HLR0.out (by kernel_rfl) ?_ | refine l_loadG 22 _ rfl (.pointer (some ⟨b1, 1, none⟩)) rfl _ HLR1.out (by kernel_rfl) ?_)
            rw [HQR.out]
            refine (show Oper.upon _ _ _ _ _ (.ok (Next.value (.bool false)) w10) from ?_)
            go_upto_region 11 with fail
            go_cut [133] from 85 to 132 (fun v wx => w10 = wx ∧ (v = .bool true ∨ (v = .bool false ∧ Hid (¬ (ep0 = ep1 ∧ lk0 = lk1 ∧ (at0 ≠ at1 ∨ ix0 ≠ ix1 ∨ (pr0 = pr1 ∧ vr0 = vr1 ∧ vl0 = vl1)))))))
            case first =>
              by_cases hep : ep0 = ep1
              case neg =>
                have h1 : (ep0 == ep1) = false := by simpa using hep
                go_wp2_with (first | (refine l_loadG 3 _ rfl (.pointer (some ⟨b0, 34, none⟩)) rfl _ HLE0.out (by kernel_rfl) ?_; refine Hid.out ?_))
                refine Lib.hid ?_
                go_wp2_with (first | (refine l_loadG 3 _ rfl (.pointer (some ⟨b1, 34, none⟩)) rfl _ HLE1.out (by kernel_rfl) ?_; refine Hid.out ?_))
                refine Lib.hid ?_
                go_wp2_with fail
                go_meet
                case rel => exact ⟨rfl, .inr ⟨rfl, Lib.hid (fun h => hep h.1)⟩⟩
              have h1 : (ep0 == ep1) = true := by simpa using hep
              go_wp2_with (first | (refine l_loadG 3 _ rfl (.pointer (some ⟨b0, 34, none⟩)) rfl _ HLE0.out (by kernel_rfl) ?_; refine Hid.out ?_))
              refine Lib.hid ?_
              go_wp2_with (first | (refine l_loadG 3 _ rfl (.pointer (some ⟨b1, 34, none⟩)) rfl _ HLE1.out (by kernel_rfl) ?_; refine Hid.out ?_))
              refine Lib.hid ?_
              clear h1
              cases bl with
              | false =>
                go_wp2_with (first | (refine l_loadG 22 _ rfl (.pointer (some ⟨b0, 35, none⟩)) rfl _ HLL0.out (by kernel_rfl) ?_; refine Hid.out ?_))
                refine Lib.hid ?_
                go_wp2_with (first | (refine l_loadG 22 _ rfl (.pointer (some ⟨b1, 35, none⟩)) rfl _ HLL1.out (by kernel_rfl) ?_; refine Hid.out ?_))
                refine Lib.hid ?_
                go_simp
                go_wp2_with fail
                rw [HQL.out]
                refine (show Oper.upon _ _ _ _ _ (.ok (Next.value (.bool false)) w10) from ?_)
                go_wp2_with fail
                go_meet
                case rel => exact ⟨rfl, .inr ⟨rfl, Lib.hid (fun h => by have := HBL.out; rw [h.2.1, beq_self_eq_true] at this; cases this)⟩⟩
              | true =>
                go_wp2_with (first | (refine l_loadG 22 _ rfl (.pointer (some ⟨b0, 35, none⟩)) rfl _ HLL0.out (by kernel_rfl) ?_; refine Hid.out ?_))
                refine Lib.hid ?_
                go_wp2_with (first | (refine l_loadG 22 _ rfl (.pointer (some ⟨b1, 35, none⟩)) rfl _ HLL1.out (by kernel_rfl) ?_; refine Hid.out ?_))
                refine Lib.hid ?_
                go_simp
                go_wp2_with fail
                rw [HQL.out]
                refine (show Oper.upon _ _ _ _ _ (.ok (Next.value (.bool true)) w10) from ?_)
                by_cases hat : at0 = at1
                case neg =>
                  have h1 : (at0 == at1) = false := by simpa using hat
                  have h2 : (at0 != at1) = true := by simpa using hat
                  go_wp2_with (first | (refine l_loadG 3 _ rfl (.pointer (some ⟨b0, 67, none⟩)) rfl _ HLA0.out (by kernel_rfl) ?_; refine Hid.out ?_))
                  refine Lib.hid ?_
                  go_wp2_with (first | (refine l_loadG 3 _ rfl (.pointer (some ⟨b1, 67, none⟩)) rfl _ HLA1.out (by kernel_rfl) ?_; refine Hid.out ?_))
                  refine Lib.hid ?_
                  go_wp2_with fail
                  go_meet
                  case rel => exact ⟨rfl, .inl rfl⟩
                have h1 : (at0 == at1) = true := by simpa using hat
                have h2 : (at0 != at1) = false := by simpa using hat
                go_wp2_with (first | (refine l_loadG 3 _ rfl (.pointer (some ⟨b0, 67, none⟩)) rfl _ HLA0.out (by kernel_rfl) ?_; refine Hid.out ?_))
                refine Lib.hid ?_
                go_wp2_with (first | (refine l_loadG 3 _ rfl (.pointer (some ⟨b1, 67, none⟩)) rfl _ HLA1.out (by kernel_rfl) ?_; refine Hid.out ?_))
                refine Lib.hid ?_
                clear h1 h2
                cases bi with
                | false =>
                  go_wp2_with (first | (refine l_loadG 22 _ rfl (.pointer (some ⟨b0, 68, none⟩)) rfl _ HLI0.out (by kernel_rfl) ?_; refine Hid.out ?_))
                  refine Lib.hid ?_
                  go_wp2_with (first | (refine l_loadG 22 _ rfl (.pointer (some ⟨b1, 68, none⟩)) rfl _ HLI1.out (by kernel_rfl) ?_; refine Hid.out ?_))
                  refine Lib.hid ?_
                  go_simp
                  go_wp2_with fail
                  rw [HQI.out]
                  refine (show Oper.upon _ _ _ _ _ (.ok (Next.value (.bool true)) w10) from ?_)
                  go_wp2_with fail
                  go_meet
                  case rel => exact ⟨rfl, .inl rfl⟩
                | true =>
                  go_wp2_with (first | (refine l_loadG 22 _ rfl (.pointer (some ⟨b0, 68, none⟩)) rfl _ HLI0.out (by kernel_rfl) ?_; refine Hid.out ?_))
                  refine Lib.hid ?_
                  go_wp2_with (first | (refine l_loadG 22 _ rfl (.pointer (some ⟨b1, 68, none⟩)) rfl _ HLI1.out (by kernel_rfl) ?_; refine Hid.out ?_))
                  refine Lib.hid ?_
                  go_simp
                  go_wp2_with fail
                  rw [HQI.out]
                  refine (show Oper.upon _ _ _ _ _ (.ok (Next.value (.bool false)) w10) from ?_)
                  have HN : Hid (¬ (at0 ≠ at1) ∧ ¬ (ix0 ≠ ix1)) := Lib.hid ⟨fun h => h hat, fun h => h (eq_of_beq HBI.out)⟩
                  by_cases hpr : pr0 = pr1
                  case neg =>
                    cases pr0 with
                    | false =>
                      cases pr1 with
                      | false => exact absurd rfl hpr
                      | true =>
                        go_wp2_with (first | (refine l_loadG 4 _ rfl (.pointer (some ⟨b0, 100, none⟩)) rfl _ HLP0.out (by kernel_rfl) ?_; refine Hid.out ?_))
                        refine Lib.hid ?_
                        go_wp2_with (first | (refine l_loadG 4 _ rfl (.pointer (some ⟨b1, 100, none⟩)) rfl _ HLP1.out (by kernel_rfl) ?_; refine Hid.out ?_))
                        refine Lib.hid ?_
                        go_wp2_with fail
                        go_meet
                        case rel => exact ⟨rfl, .inr ⟨rfl, Lib.hid (fun h => by rcases h.2.2 with h | h | h; exact HN.out.1 h; exact HN.out.2 h; cases h.1)⟩⟩
                    | true =>
                      cases pr1 with
                      | true => exact absurd rfl hpr
                      | false =>
                        go_wp2_with (first | (refine l_loadG 4 _ rfl (.pointer (some ⟨b0, 100, none⟩)) rfl _ HLP0.out (by kernel_rfl) ?_; refine Hid.out ?_))
                        refine Lib.hid ?_
                        go_wp2_with (first | (refine l_loadG 4 _ rfl (.pointer (some ⟨b1, 100, none⟩)) rfl _ HLP1.out (by kernel_rfl) ?_; refine Hid.out ?_))
                        refine Lib.hid ?_
                        go_wp2_with fail
                        go_meet
                        case rel => exact ⟨rfl, .inr ⟨rfl, Lib.hid (fun h => by rcases h.2.2 with h | h | h; exact HN.out.1 h; exact HN.out.2 h; cases h.1)⟩⟩
                  subst hpr
                  go_wp2_with (first | (refine l_loadG 4 _ rfl (.pointer (some ⟨b0, 100, none⟩)) rfl _ HLP0.out (by kernel_rfl) ?_; refine Hid.out ?_))
                  refine Lib.hid ?_
                  go_wp2_with (first | (refine l_loadG 4 _ rfl (.pointer (some ⟨b1, 100, none⟩)) rfl _ HLP1.out (by kernel_rfl) ?_; refine Hid.out ?_))
                  refine Lib.hid ?_
                  by_cases hvr : vr0 = vr1
                  case neg =>
                    have h1 : (vr0 == vr1) = false := by simpa using hvr
                    go_wp2_with (first | (refine l_loadG 3 _ rfl (.pointer (some ⟨b0, 101, none⟩)) rfl _ HLV0.out (by kernel_rfl) ?_; refine Hid.out ?_))
                    refine Lib.hid ?_
                    go_wp2_with (first | (refine l_loadG 3 _ rfl (.pointer (some ⟨b1, 101, none⟩)) rfl _ HLV1.out (by kernel_rfl) ?_; refine Hid.out ?_))
                    refine Lib.hid ?_
                    go_wp2_with fail
                    go_meet
                    case rel => exact ⟨rfl, .inr ⟨rfl, Lib.hid (fun h => by rcases h.2.2 with h | h | h; exact HN.out.1 h; exact HN.out.2 h; exact hvr h.2.1)⟩⟩
                  have h1 : (vr0 == vr1) = true := by simpa using hvr
                  go_wp2_with (first | (refine l_loadG 3 _ rfl (.pointer (some ⟨b0, 101, none⟩)) rfl _ HLV0.out (by kernel_rfl) ?_; refine Hid.out ?_))
                  refine Lib.hid ?_
                  go_wp2_with (first | (refine l_loadG 3 _ rfl (.pointer (some ⟨b1, 101, none⟩)) rfl _ HLV1.out (by kernel_rfl) ?_; refine Hid.out ?_))
                  refine Lib.hid ?_
                  clear h1
                  go_wp2_with (first | (refine l_loadG 23 _ rfl (.pointer (some ⟨b0, 102, none⟩)) rfl _ HLT0.out (by kernel_rfl) ?_; refine Hid.out ?_))
                  refine Lib.hid ?_
                  refine Ref.unguard16 (by kernel_rfl) ?_
                  go_wp2_with fail
                  rw [HCX0.out]
                  go_wp2_with (first | (refine l_loadG 23 _ rfl (.pointer (some ⟨b1, 102, none⟩)) rfl _ HLT1.out (by kernel_rfl) ?_; refine Hid.out ?_))
                  refine Lib.hid ?_
                  refine Ref.unguard16 (by kernel_rfl) ?_
                  go_wp2_with fail
                  rw [HCX1.out]
                  cases bs with
                  | false =>
                    have hbs := HBS2.out
                    go_wp2_with fail
                    go_meet
                    case rel => exact ⟨rfl, .inr ⟨rfl, Lib.hid (fun h => by rcases h.2.2 with h | h | h; exact HN.out.1 h; exact HN.out.2 h; exact HBS.out (by trivial) h.2.2)⟩⟩
                  | true =>
                    have hbs := HBS2.out
                    go_wp2_with fail
                    go_meet
                    case rel => exact ⟨rfl, .inl rfl⟩
            case rest =>
              obtain ⟨rfl, hv⟩ := hcut
              rcases hv with rfl | ⟨rfl, HD⟩
              case inl =>
                go_wp2_with fail
                go_ret
                exact ⟨rfl, HB10.out⟩
              case inr =>
                go_upto_region 13 with fail
                obtain ⟨W0, hW0⟩ : ∃ W, W = lookT [116] f0 R0 S0 t0 k0 v0 := ⟨_, rfl⟩
                obtain ⟨W1, hW1⟩ : ∃ W, W = lookT [116] f1 R1 S1 t1 k1 v1 := ⟨_, rfl⟩
                obtain ⟨XX, YY, hff, hne, hsh⟩ : ∃ x y, Fnd.findP W1 W0 = (x, y, true) ∧ x ≠ y ∧ sha x = sha y := Fnd.findP_pair (by
                  rw [hW0, hW1]
                  exact sees_pair HF010.out.ok HF110.out.ok HAI010.out.row.1 HAI110.out.row.1 (Nat.le_trans HAI010.out.few (by decide)) (Nat.le_trans HAI110.out.few (by decide)) HU010.out.prf.sums.1 HU110.out.prf.sums.1 (HYP0.out (by trivial)) (HYP1.out (by trivial)) (eq_of_beq HBR.out) HD.out)
                have hs0 : ∀ t ∈ W0, t.length ≤ 1100000 := by rw [hW0]; exact look_short (by decide) HF010.out.ok HAI010.out.row.1 HU010.out.prf.sums.1 HU010.out.prf.keyL HU010.out.prf.valL
                have hs1 : ∀ t ∈ W1, t.length ≤ 1100000 := by rw [hW1]; exact look_short (by decide) HF110.out.ok HAI110.out.row.1 HU110.out.prf.sums.1 HU110.out.prf.keyL HU110.out.prf.valL
                have hl0 : W0.length ≤ 1000 := by rw [hW0]; exact look_length HF010.out.ok HAI010.out.few HU010.out.prf.few
                have hl1 : W1.length ≤ 1000 := by rw [hW1]; exact look_length HF110.out.ok HAI110.out.few HU110.out.prf.few
                have hmm := Fnd.findP_mem hff
                have HXS0 : Hid (∀ x, Below w10.heap.size w10 x → Calls Tryz.prog 12 #[.slice (some ⟨w.heap.size + 1 + 1, 0, none⟩) 1 1, .agg A0] x fun e w' => ∃ q c, e = .returned (.slice q W0.length c) ∧ PartsF w' x.heap.size (.slice q W0.length c) W0 ∧ Below x.heap.size x w') := Lib.hid (fun x hx => by
                  obtain ⟨_, _, _, _, _, _, _, _, b0, b1, _⟩ := HYP0.out (by trivial)
                  rw [hW0]
                  exact xlook_any (id := [116]) (HS10.out.below hx) (HI10.out.below hx) (by decide) (HAI010.out.below hx) (HF010.out.below hx) (HU010.out.below hx) b0 b1)
                have HXS1 : Hid (∀ x, Below w10.heap.size w10 x → Calls Tryz.prog 12 #[.slice (some ⟨w.heap.size + 1 + 1, 0, none⟩) 1 1, .agg A1] x fun e w' => ∃ q c, e = .returned (.slice q W1.length c) ∧ PartsF w' x.heap.size (.slice q W1.length c) W1 ∧ Below x.heap.size x w') := Lib.hid (fun x hx => by
                  obtain ⟨_, _, _, _, _, _, _, _, b0, b1, _⟩ := HYP1.out (by trivial)
                  rw [hW1]
                  exact xlook_any (id := [116]) (HS10.out.below hx) (HI10.out.below hx) (by decide) (HAI110.out.below hx) (HF110.out.below hx) (HU110.out.below hx) b0 b1)
                have HEF : Hid (∀ x qa ca qb cb, Below w10.heap.size w10 x → Parts x (.slice qa W0.length ca) W0 → Parts x (.slice qb W1.length cb) W1 → Calls Tryz.prog 9 #[.slice qa W0.length ca, .slice qb W1.length cb] x fun e w' => ∃ qx cx qy cy, e = .returned (.tuple #[.slice qx XX.length cx, .slice qy YY.length cy, .bool true]) ∧ Ow w' x.heap.size 5 1 (.slice qx XX.length cx) XX.length (bys XX) ∧ Ow w' x.heap.size 5 1 (.slice qy YY.length cy) YY.length (bys YY) ∧ Below x.heap.size x w') := Lib.hid (fun x qa ca qb cb hx h1 h2 => by
                  have := Fnd.efind_any qa ca W0 qb cb W1 x (HS10.out.below hx) h1 h2 hl0 hl1 hs0 hs1
                  rw [hff] at this
                  exact this)
                have HPR : Hid (∀ x qx cx qy cy, Below w10.heap.size w10 x → Rd x 1 (.slice qx XX.length cx) XX.length (bys XX) → Rd x 1 (.slice qy YY.length cy) YY.length (bys YY) → Calls Tryz.prog 8 #[.slice qx XX.length cx, .slice qy YY.length cy, .bool true] x fun e w' => e = .returned (.bool true) ∧ Below x.heap.size x w') := Lib.hid (fun x qx cx qy cy hx h1 h2 =>
                  pair_any (HS10.out.below hx) h1 h2 (hs0 _ hmm.1) (hs1 _ hmm.2) hne hsh)
                clear hW0 hW1 hff hne hsh hs0 hs1 hl0 hl1 hmm
                refine Rc.region (w10.heap.size) 12 [Rc.F 2 (fun p => .slice p.q W0.length p.c) (fun p _ y => Parts y (.slice p.q W0.length p.c) W0), Rc.F 5 (fun p => .slice p.q W1.length p.c) (fun p _ y => Parts y (.slice p.q W1.length p.c) W1), ⟨6, [2, 5], [], some (fun _ pj => .tuple #[.slice pj.q XX.length pj.c, pj.v, .bool true]), fun _ pj F y => Rd y 1 (.slice pj.q XX.length pj.c) XX.length (bys XX) ∧ ∃ qy cy, pj.v = .slice qy YY.length cy ∧ Rd y 1 (.slice qy YY.length cy) YY.length (bys YY)⟩, ⟨10, [6], [], some (fun _ _ => .bool true), fun _ _ _ _ => True⟩] [10] (by kernel_rfl) (Nat.le_refl _) (by kernel_rfl) ?_; intro p; simp only [List.take, List.drop]
                iterate 1 (refine Rc.rK rfl rfl ?_; intro K hK; apply Exists.intro; refine ⟨?_, ?_⟩; (focus (intro x hx;  go_simp; (first | (fail) | ((try go_bits); (try go_simp); (try rfl))))); go_simp; refine hK _ ?_; clear hK K)
                refine Rc.r_load rfl rfl _ _ rfl (.agg A0) (fun x hx => (PartAt.self A0).load (Rp.row_le (Rc.undrew hx) HRA010.out) Tryz.underlying45 rfl (by rw [HAI010.out.size]; exact infoAns)) ?_; intro K hK; go_simp; refine hK _ ?_; clear hK K
                refine Rc.fK rfl rfl rfl rfl ?_ ?_
                · intro x Fs hx hle hg K' hK'
                  have hck := HXS0.out x (Rc.undrew hx)
                  clear hx hg
                  go_wp2_with fail
                  refine hck.mono ?_
                  rintro e x' ⟨q, c, rfl, hp, hb⟩
                  go_wp2_with fail
                  exact hK' ⟨q, c, undef⟩ x' hb (fun F y hF hy => hp.keeps hF hy)
                intro K hK; go_simp; refine hK _ ?_; clear hK K
                iterate 1 (refine Rc.rK rfl rfl ?_; intro K hK; apply Exists.intro; refine ⟨?_, ?_⟩; (focus (intro x hx;  go_simp; (first | (fail) | ((try go_bits); (try go_simp); (try rfl))))); go_simp; refine hK _ ?_; clear hK K)
                refine Rc.r_load rfl rfl _ _ rfl (.agg A1) (fun x hx => (PartAt.self A1).load (Rp.row_le (Rc.undrew hx) HRA110.out) Tryz.underlying45 rfl (by rw [HAI110.out.size]; exact infoAns)) ?_; intro K hK; go_simp; refine hK _ ?_; clear hK K
                refine Rc.fK rfl rfl rfl rfl ?_ ?_
                · intro x Fs hx hle hg K' hK'
                  have hck := HXS1.out x (Rc.undrew hx)
                  clear hx hg
                  go_wp2_with fail
                  refine hck.mono ?_
                  rintro e x' ⟨q, c, rfl, hp, hb⟩
                  go_wp2_with fail
                  exact hK' ⟨q, c, undef⟩ x' hb (fun F y hF hy => hp.keeps hF hy)
                intro K hK; go_simp; refine hK _ ?_; clear hK K
                refine Rc.fK rfl rfl rfl rfl ?_ ?_
                · intro x Fs hx hle hg K' hK'
                  have hck := HEF.out x (p 2).q (p 2).c (p 5).q (p 5).c (Rc.undrew hx) hg.1 hg.2.1
                  clear hx hg
                  go_wp2_with fail
                  refine hck.mono ?_
                  rintro e x' ⟨qx, cx, qy, cy, rfl, hx1, hx2, hb⟩
                  go_wp2_with fail
                  exact hK' ⟨qx, cx, .slice qy YY.length cy⟩ x' hb (fun F y hF hy => ⟨(Rd.of_ow hx1).keeps hy (fun k hk => .inr (hF k (hx1.lt k hk).1 (hx1.lt k hk).2)), qy, cy, rfl, (Rd.of_ow hx2).keeps hy (fun k hk => .inr (hF k (hx2.lt k hk).1 (hx2.lt k hk).2))⟩)
                intro K hK; go_simp; refine hK _ ?_; clear hK K
                iterate 3 (refine Rc.rK rfl rfl ?_; intro K hK; apply Exists.intro; refine ⟨?_, ?_⟩; (focus (intro x hx;  go_simp; (first | (fail) | ((try go_bits); (try go_simp); (try rfl))))); go_simp; refine hK _ ?_; clear hK K)
                refine Rc.fK rfl rfl rfl rfl ?_ ?_
                · intro x Fs hx hle hg K' hK'
                  obtain ⟨hr1, qy, cy, hv, hr2⟩ : Rd x 1 (.slice (p 6).q XX.length (p 6).c) XX.length (bys XX) ∧ ∃ qy cy, (p 6).v = .slice qy YY.length cy ∧ Rd x 1 (.slice qy YY.length cy) YY.length (bys YY) := hg.1
                  have hck := HPR.out x (p 6).q (p 6).c qy cy (Rc.undrew hx) hr1 hr2
                  rw [← hv] at hck
                  clear hx hg hr1 hr2 hv
                  go_wp2_with fail
                  refine hck.mono ?_
                  rintro e x' ⟨rfl, hb⟩
                  go_wp2_with fail
                  exact hK' Rc.dflt x' hb (fun _ _ _ _ => trivial)
                intro K hK; go_simp; refine hK _ ?_; clear hK K
                iterate 1 (refine Rc.rK rfl rfl ?_; intro K hK; apply Exists.intro; refine ⟨?_, ?_⟩; (focus (intro x hx;  go_simp; (first | (fail) | ((try go_bits); (try go_simp); (try rfl))))); go_simp; refine hK _ ?_; clear hK K)
                refine Rc.done fun wz Fs hx hle hg => ?_
                have HBZ := Lib.hid (HB10.out.trans ((Rc.undrew hx).mono HB10.out.size))
                clear hx hle hg
                go_wp2_with fail
                refine NoPanic.normal ?_
                go_wp2_with fail
                go_ret
                exact ⟨rfl, HBZ.out⟩
        · have h1 : (y1 == 0) = false := by simpa using hy1
          have h2 : (y1 != 0) = true := by simpa using hy1
          go_wp2_with fail
          go_ret
          exact ⟨rfl, HB10.out⟩
      · have h1 : (y0 == 0) = false := by simpa using hy0
        have h2 : (y0 != 0) = true := by simpa using hy0
        go_wp2_with fail
        go_ret
        exact ⟨rfl, HB10.out⟩
    · have h1 : (z1 == 0) = false := by simpa using hz1'
      have h2 : (z1 != 0) = true := by simpa using hz1'
      go_wp2_with fail
      refine (Fnd.finds_any w6 HS6.out).mono ?_
      rintro e w7 ⟨rfl, hb7⟩
      have HB7 := Lib.hid (HB6.out.trans (hb7.mono HB6.out.size))
      clear hb7
      go_wp2_with fail
      go_ret
      exact ⟨rfl, HB7.out⟩
  · have h1 : (z0 == 0) = false := by simpa using hz0
    have h2 : (z0 != 0) = true := by simpa using hz0
    go_wp2_with fail
    refine (Fnd.finds_any w6 HS6.out).mono ?_
    rintro e w7 ⟨rfl, hb7⟩
    have HB7 := Lib.hid (HB6.out.trans (hb7.mono HB6.out.size))
    clear hb7
    go_wp2_with fail
    go_ret
    exact ⟨rfl, HB7.out⟩
end Stn
end Go.Proofs.YtmonkggoilhngaaGreatDoor
